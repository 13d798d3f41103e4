/- Explain and Check return what is specified for any register, record and environment with the layers and experiments of a made one; for every input of bulk at most 1048576 the law returns true. This is part 4 of 10. Conditions: those in the statements. -/
import Derived.Test.YtjepffgpbidclaaGreatDoorProg
import Derived.Test.YtjepffgpbidclaaGreatDoorAn3
import Derived.Lib.ValidU
import Derived.Lib.ItoaNum
import Derived.KernelRfl
import Derived.Conc.MuLone
import Derived.Shelf.Small.Bits
import Derived.Shelf.Utf8.RuneCount
import Derived.Shelf.Strconv.Atoi
import Derived.Shelf.Strconv.Itoa0
import Derived.Shelf.Strconv.Itoa1
import Derived.Shelf.LaysM
import Derived.Shelf.Strconv.Itoa2
import Derived.Shelf.Strconv.Itoa3
import Derived.Shelf.Strconv.AtoiErrFast
import Derived.Shelf.Strconv.ParseIntEmpty
import Derived.Shelf.Strconv.AtoiFail
import Derived.Shelf.Strconv.Clone
import Derived.Shelf.Strconv.SyntaxError
import Derived.Shelf.LaysC
import Derived.Shelf.Strconv.ToError
import Derived.Shelf.Strconv.Lower
import Derived.Shelf.Strconv.ParseUint10
import Derived.Shelf.Strconv.ParseUint10Empty
import Derived.Shelf.Strconv.ParseUint10Any
import Derived.Shelf.Strconv.ParseInt10
import Derived.Shelf.Strconv.AtoiLong
import Derived.Shelf.Strconv.AtoiInnerAll
import Derived.Shelf.Strconv.RangeError
import Derived.Shelf.Strconv.ToErrorRange
import Derived.Shelf.Strconv.AtoiAll
import Derived.Shelf.Strconv.ErrVarAll
import Derived.Shelf.Strings.Search1
import Derived.Shelf.Strings.Search2
import Derived.Shelf.Strings.Search3
import Derived.Shelf.Strings.Count
import Derived.Shelf.Strings.Shaped
import Derived.Shelf.Sort.Plain
import Derived.Shelf.Strings.Split
import Derived.Shelf.Strings.Fields
import Derived.Shelf.Strings.SplitShaped
import Derived.Shelf.Unicode.Latin
import Derived.Shelf.Unicode.Decode
import Derived.Shelf.Strings.RuneCount
import Derived.Shelf.Strings.Explode
import Derived.Shelf.Unicode.DecodeSlow
import Derived.Shelf.Unicode.DecodeAny
import Derived.Shelf.Unicode.Is16White
import Derived.Shelf.Unicode.IsSpaceAny
import Derived.Shelf.Unicode.Is16Any
import Derived.Shelf.Unicode.Is32Any
import Derived.Shelf.Unicode.ExclAny
import Derived.Ground.Names2Prog
import Derived.Shelf.Slices.Clone
import Derived.Shelf.Slices.CompactS
import Derived.Shelf.Slices.SearchI
import Derived.Shelf.Slices.Delete
import Derived.Shelf.Slices.Cells
import Derived.Shelf.Slices.In.SortNone
import Derived.Shelf.Slices.Empties
import Derived.Ground.SlgnProg
import Derived.Shelf.SlicesE.Clone
import Derived.Ground.NamesProg
import Derived.Shelf.Unicode.ValidAny
import Derived.Shelf.SlIter.Sorted
import Derived.Ground.GgzProg
import Derived.Shelf.SlIter.Collect
import Derived.WalkKit
import Derived.OwnWalkIn
import Derived.TacticsInMore
import Derived.LoopNIn
import Derived.LoopIn
import Derived.RangeFuncLeaves
import Derived.Lib.AppendIntMem
noncomputable section
set_option maxRecDepth 100000
open Go Go.RowKit Go.Fl Go.Fl.Lk Go.Fx
namespace Go.En
abbrev Two(p:Prop):Prop:=p/\p
abbrev q47:Type:=(List (ByteArray)->Prop)->Prop
def q9p:q47:=fun K=>K [B8 [104,111,109,101],B8 [115,104,111,112]]
abbrev Jf:Type:=Int->Int->Int->Int->Int->(Envt->Prop)->Prop
def q0k(Wm:q47):Jf:=fun salt hold cut one two K=>(26:Int)≠(0:Int)/\(↑((B8 [115]).size+(bsOf [Go.IntKind.u8.wrap ((97:Int)+salt.tmod (26:Int))]).size):Int)<=(9223372036854775807:Int)/\InI hold/\(50:Int)≠(0:Int)/\InI (hold.tmod (50:Int)*(20:Int))/\Lp2 (fun Qa Gh j6i=>[B8 [102,97,115,116,45,102,108,97,103],B8 [115,104,111,112,45,102,108,97,103],B8 [115,108,111,119,45,102,108,97,103],B8 [116,111,112,45,102,108,97,103]].length<=(9223372036854775807:Nat)->Cnd (Qa<(↑[B8 [102,97,115,116,45,102,108,97,103],B8 [115,104,111,112,45,102,108,97,103],B8 [115,108,111,119,45,102,108,97,103],B8 [116,111,112,45,102,108,97,103]].length:Int)) (((0:Int)<=Qa/\Qa<(↑[B8 [102,97,115,116,45,102,108,97,103],B8 [115,104,111,112,45,102,108,97,103],B8 [115,108,111,119,45,102,108,97,103],B8 [116,111,112,45,102,108,97,103]].length:Int))/\ ∀y2,[B8 [102,97,115,116,45,102,108,97,103],B8 [115,104,111,112,45,102,108,97,103],B8 [115,108,111,119,45,102,108,97,103],B8 [116,111,112,45,102,108,97,103]][Qa.toNat]? =some y2->Lp2 (fun Qc Ui j75=>Cnd (Qc<=3) (InI (Qc*10)/\Sml (Ui++[Val.mk (2:Int) (Qc*10) (B8 []) []]).length/\InI (Qc+1)/\j75 (Qc+1) (Ui++[Val.mk (2:Int) (Qc*10) (B8 []) []])) (Sml (Gh++[Flg.mk y2 (2:Int) Ui true (3:Int) [] [] [] (Srv.mk (3:Int) (B8 []) (B8 []) (B8 []) [])]).length/\InI (Qa+1)/\j6i (Qa+1) (Gh++[Flg.mk y2 (2:Int) Ui true (3:Int) [] [] [] (Srv.mk (3:Int) (B8 []) (B8 []) (B8 []) [])]))) (1:Int) []) (Lp2 (fun Qh Gi j76=>Cnd (Qh<2) (Wm fun Qd=>At Qd Qh fun y4=>Wm fun Jc=>At Jc Qh fun y7=>(↑((B8 [115]++bsOf [Go.IntKind.u8.wrap ((97:Int)+salt.tmod (26:Int))]).size+y7.size):Int)<=(9223372036854775807:Int)/\Sml (Gi++[Lay_.mk y4 (B8 [117,115,101,114]) (B8 [115]++bsOf [Go.IntKind.u8.wrap ((97:Int)+salt.tmod (26:Int))]++y7) (hold.tmod (50:Int)*(20:Int)) (0:Int) []]).length/\InI (Qh+1)/\j76 (Qh+1) (Gi++[Lay_.mk y4 (B8 [117,115,101,114]) (B8 [115]++bsOf [Go.IntKind.u8.wrap ((97:Int)+salt.tmod (26:Int))]++y7) (hold.tmod (50:Int)*(20:Int)) (0:Int) []])) (InI one/\(9998:Int)≠(0:Int)/\InI ((1:Int)+one.tmod (9998:Int))/\InI ((1:Int)+one.tmod (9998:Int)+(1:Int))/\InI two/\InI ((9999:Int) - ((1:Int)+one.tmod (9998:Int)))/\(9999:Int) - ((1:Int)+one.tmod (9998:Int))≠(0:Int)/\InI ((1:Int)+one.tmod (9998:Int)+(1:Int)+two.tmod ((9999:Int) - ((1:Int)+one.tmod (9998:Int))))/\InI (hold.tmod (50:Int)*(20:Int)+(1:Int))/\InI cut/\InI ((10000:Int) - hold.tmod (50:Int)*(20:Int))/\InI ((10000:Int) - hold.tmod (50:Int)*(20:Int) - (1:Int))/\(10000:Int) - hold.tmod (50:Int)*(20:Int) - (1:Int)≠(0:Int)/\InI (hold.tmod (50:Int)*(20:Int)+(1:Int)+cut.tmod ((10000:Int) - hold.tmod (50:Int)*(20:Int) - (1:Int)))/\Lp2 (fun Qd G8 z89=>Cnd (Qd<4) ((2:Int)≠(0:Int)/\((0:Int)<=Qd/\Qd<(↑[B8 [102,97,115,116,45,102,108,97,103],B8 [115,104,111,112,45,102,108,97,103],B8 [115,108,111,119,45,102,108,97,103],B8 [116,111,112,45,102,108,97,103]].length:Int))/\ ∀y4,[B8 [102,97,115,116,45,102,108,97,103],B8 [115,104,111,112,45,102,108,97,103],B8 [115,108,111,119,45,102,108,97,103],B8 [116,111,112,45,102,108,97,103]][Qd.toNat]? =some y4->(((0:Int)<=Qd/\Qd<(↑[B8 [98,108,117,101],B8 [102,97,115,116],B8 [103,114,101,101,110],B8 [115,108,111,119]].length:Int))/\ ∀y6,[B8 [98,108,117,101],B8 [102,97,115,116],B8 [103,114,101,101,110],B8 [115,108,111,119]][Qd.toNat]? =some y6->(Wm fun q4i=>((0:Int)<=Qd.tmod (2:Int)/\Qd.tmod (2:Int)<(↑q4i.length:Int))/\ ∀y9,q4i[(Qd.tmod (2:Int)).toNat]? =some y9->(↑((B8 [115]++bsOf [Go.IntKind.u8.wrap ((97:Int)+salt.tmod (26:Int))]).size+(bsOf [Go.IntKind.u8.wrap ((48:Int)+Go.IntKind.u8.wrap Qd)]).size):Int)<=(9223372036854775807:Int)/\Cnd ((2:Int)<=Qd) (Sml (G8++[Exper.mk y6 y9 y4 (B8 [115]++bsOf [Go.IntKind.u8.wrap ((97:Int)+salt.tmod (26:Int))]++bsOf [Go.IntKind.u8.wrap ((48:Int)+Go.IntKind.u8.wrap Qd)]) (2:Int) [Spn.mk (hold.tmod (50:Int)*(20:Int)+(1:Int)+cut.tmod ((10000:Int) - hold.tmod (50:Int)*(20:Int) - (1:Int))) (10000:Int)] [Rng.mk (0:Int) ((1:Int)+one.tmod (9998:Int)) (1:Int),Rng.mk ((1:Int)+one.tmod (9998:Int)) ((1:Int)+one.tmod (9998:Int)+(1:Int)+two.tmod ((9999:Int) - ((1:Int)+one.tmod (9998:Int)))) (2:Int),Rng.mk ((1:Int)+one.tmod (9998:Int)+(1:Int)+two.tmod ((9999:Int) - ((1:Int)+one.tmod (9998:Int)))) (10000:Int) (3:Int)] (Ex.mk (1:Int) (B8 []) (B8 []) [] [])]).length/\InI (Qd+1)/\z89 (Qd+1) (G8++[Exper.mk y6 y9 y4 (B8 [115]++bsOf [Go.IntKind.u8.wrap ((97:Int)+salt.tmod (26:Int))]++bsOf [Go.IntKind.u8.wrap ((48:Int)+Go.IntKind.u8.wrap Qd)]) (2:Int) [Spn.mk (hold.tmod (50:Int)*(20:Int)+(1:Int)+cut.tmod ((10000:Int) - hold.tmod (50:Int)*(20:Int) - (1:Int))) (10000:Int)] [Rng.mk (0:Int) ((1:Int)+one.tmod (9998:Int)) (1:Int),Rng.mk ((1:Int)+one.tmod (9998:Int)) ((1:Int)+one.tmod (9998:Int)+(1:Int)+two.tmod ((9999:Int) - ((1:Int)+one.tmod (9998:Int)))) (2:Int),Rng.mk ((1:Int)+one.tmod (9998:Int)+(1:Int)+two.tmod ((9999:Int) - ((1:Int)+one.tmod (9998:Int)))) (10000:Int) (3:Int)] (Ex.mk (1:Int) (B8 []) (B8 []) [] [])])) (Sml (G8++[Exper.mk y6 y9 y4 (B8 [115]++bsOf [Go.IntKind.u8.wrap ((97:Int)+salt.tmod (26:Int))]++bsOf [Go.IntKind.u8.wrap ((48:Int)+Go.IntKind.u8.wrap Qd)]) (2:Int) [Spn.mk (hold.tmod (50:Int)*(20:Int)) (hold.tmod (50:Int)*(20:Int)+(1:Int)+cut.tmod ((10000:Int) - hold.tmod (50:Int)*(20:Int) - (1:Int)))] [Rng.mk (0:Int) ((1:Int)+one.tmod (9998:Int)) (1:Int),Rng.mk ((1:Int)+one.tmod (9998:Int)) ((1:Int)+one.tmod (9998:Int)+(1:Int)+two.tmod ((9999:Int) - ((1:Int)+one.tmod (9998:Int)))) (2:Int),Rng.mk ((1:Int)+one.tmod (9998:Int)+(1:Int)+two.tmod ((9999:Int) - ((1:Int)+one.tmod (9998:Int)))) (10000:Int) (3:Int)] (Ex.mk (1:Int) (B8 []) (B8 []) [] [])]).length/\InI (Qd+1)/\z89 (Qd+1) (G8++[Exper.mk y6 y9 y4 (B8 [115]++bsOf [Go.IntKind.u8.wrap ((97:Int)+salt.tmod (26:Int))]++bsOf [Go.IntKind.u8.wrap ((48:Int)+Go.IntKind.u8.wrap Qd)]) (2:Int) [Spn.mk (hold.tmod (50:Int)*(20:Int)) (hold.tmod (50:Int)*(20:Int)+(1:Int)+cut.tmod ((10000:Int) - hold.tmod (50:Int)*(20:Int) - (1:Int)))] [Rng.mk (0:Int) ((1:Int)+one.tmod (9998:Int)) (1:Int),Rng.mk ((1:Int)+one.tmod (9998:Int)) ((1:Int)+one.tmod (9998:Int)+(1:Int)+two.tmod ((9999:Int) - ((1:Int)+one.tmod (9998:Int)))) (2:Int),Rng.mk ((1:Int)+one.tmod (9998:Int)+(1:Int)+two.tmod ((9999:Int) - ((1:Int)+one.tmod (9998:Int)))) (10000:Int) (3:Int)] (Ex.mk (1:Int) (B8 []) (B8 []) [] [])])))/\(↑((B8 [115]++bsOf [Go.IntKind.u8.wrap ((97:Int)+salt.tmod (26:Int))]).size+(bsOf [Go.IntKind.u8.wrap ((48:Int)+Go.IntKind.u8.wrap Qd)]).size):Int)<=(9223372036854775807:Int)/\Wm fun q4i=>((0:Int)<=Qd.tmod (2:Int)/\Qd.tmod (2:Int)<(↑q4i.length:Int))/\ ∀y9,q4i[(Qd.tmod (2:Int)).toNat]? =some y9->Cnd ((2:Int)<=Qd) (Sml (G8++[Exper.mk y6 y9 y4 (B8 [115]++bsOf [Go.IntKind.u8.wrap ((97:Int)+salt.tmod (26:Int))]++bsOf [Go.IntKind.u8.wrap ((48:Int)+Go.IntKind.u8.wrap Qd)]) (2:Int) [Spn.mk (hold.tmod (50:Int)*(20:Int)+(1:Int)+cut.tmod ((10000:Int) - hold.tmod (50:Int)*(20:Int) - (1:Int))) (10000:Int)] [Rng.mk (0:Int) ((1:Int)+one.tmod (9998:Int)) (1:Int),Rng.mk ((1:Int)+one.tmod (9998:Int)) ((1:Int)+one.tmod (9998:Int)+(1:Int)+two.tmod ((9999:Int) - ((1:Int)+one.tmod (9998:Int)))) (2:Int),Rng.mk ((1:Int)+one.tmod (9998:Int)+(1:Int)+two.tmod ((9999:Int) - ((1:Int)+one.tmod (9998:Int)))) (10000:Int) (3:Int)] (Ex.mk (1:Int) (B8 []) (B8 []) [] [])]).length/\InI (Qd+1)/\z89 (Qd+1) (G8++[Exper.mk y6 y9 y4 (B8 [115]++bsOf [Go.IntKind.u8.wrap ((97:Int)+salt.tmod (26:Int))]++bsOf [Go.IntKind.u8.wrap ((48:Int)+Go.IntKind.u8.wrap Qd)]) (2:Int) [Spn.mk (hold.tmod (50:Int)*(20:Int)+(1:Int)+cut.tmod ((10000:Int) - hold.tmod (50:Int)*(20:Int) - (1:Int))) (10000:Int)] [Rng.mk (0:Int) ((1:Int)+one.tmod (9998:Int)) (1:Int),Rng.mk ((1:Int)+one.tmod (9998:Int)) ((1:Int)+one.tmod (9998:Int)+(1:Int)+two.tmod ((9999:Int) - ((1:Int)+one.tmod (9998:Int)))) (2:Int),Rng.mk ((1:Int)+one.tmod (9998:Int)+(1:Int)+two.tmod ((9999:Int) - ((1:Int)+one.tmod (9998:Int)))) (10000:Int) (3:Int)] (Ex.mk (1:Int) (B8 []) (B8 []) [] [])])) (Sml (G8++[Exper.mk y6 y9 y4 (B8 [115]++bsOf [Go.IntKind.u8.wrap ((97:Int)+salt.tmod (26:Int))]++bsOf [Go.IntKind.u8.wrap ((48:Int)+Go.IntKind.u8.wrap Qd)]) (2:Int) [Spn.mk (hold.tmod (50:Int)*(20:Int)) (hold.tmod (50:Int)*(20:Int)+(1:Int)+cut.tmod ((10000:Int) - hold.tmod (50:Int)*(20:Int) - (1:Int)))] [Rng.mk (0:Int) ((1:Int)+one.tmod (9998:Int)) (1:Int),Rng.mk ((1:Int)+one.tmod (9998:Int)) ((1:Int)+one.tmod (9998:Int)+(1:Int)+two.tmod ((9999:Int) - ((1:Int)+one.tmod (9998:Int)))) (2:Int),Rng.mk ((1:Int)+one.tmod (9998:Int)+(1:Int)+two.tmod ((9999:Int) - ((1:Int)+one.tmod (9998:Int)))) (10000:Int) (3:Int)] (Ex.mk (1:Int) (B8 []) (B8 []) [] [])]).length/\InI (Qd+1)/\z89 (Qd+1) (G8++[Exper.mk y6 y9 y4 (B8 [115]++bsOf [Go.IntKind.u8.wrap ((97:Int)+salt.tmod (26:Int))]++bsOf [Go.IntKind.u8.wrap ((48:Int)+Go.IntKind.u8.wrap Qd)]) (2:Int) [Spn.mk (hold.tmod (50:Int)*(20:Int)) (hold.tmod (50:Int)*(20:Int)+(1:Int)+cut.tmod ((10000:Int) - hold.tmod (50:Int)*(20:Int) - (1:Int)))] [Rng.mk (0:Int) ((1:Int)+one.tmod (9998:Int)) (1:Int),Rng.mk ((1:Int)+one.tmod (9998:Int)) ((1:Int)+one.tmod (9998:Int)+(1:Int)+two.tmod ((9999:Int) - ((1:Int)+one.tmod (9998:Int)))) (2:Int),Rng.mk ((1:Int)+one.tmod (9998:Int)+(1:Int)+two.tmod ((9999:Int) - ((1:Int)+one.tmod (9998:Int)))) (10000:Int) (3:Int)] (Ex.mk (1:Int) (B8 []) (B8 []) [] [])])))/\(Wm fun Jc=>((0:Int)<=Qd.tmod (2:Int)/\Qd.tmod (2:Int)<(↑Jc.length:Int))/\ ∀y7,Jc[(Qd.tmod (2:Int)).toNat]? =some y7->(((0:Int)<=Qd/\Qd<(↑[B8 [98,108,117,101],B8 [102,97,115,116],B8 [103,114,101,101,110],B8 [115,108,111,119]].length:Int))/\ ∀y9,[B8 [98,108,117,101],B8 [102,97,115,116],B8 [103,114,101,101,110],B8 [115,108,111,119]][Qd.toNat]? =some y9->(↑((B8 [115]++bsOf [Go.IntKind.u8.wrap ((97:Int)+salt.tmod (26:Int))]).size+(bsOf [Go.IntKind.u8.wrap ((48:Int)+Go.IntKind.u8.wrap Qd)]).size):Int)<=(9223372036854775807:Int)/\Cnd ((2:Int)<=Qd) (Sml (G8++[Exper.mk y9 y7 y4 (B8 [115]++bsOf [Go.IntKind.u8.wrap ((97:Int)+salt.tmod (26:Int))]++bsOf [Go.IntKind.u8.wrap ((48:Int)+Go.IntKind.u8.wrap Qd)]) (2:Int) [Spn.mk (hold.tmod (50:Int)*(20:Int)+(1:Int)+cut.tmod ((10000:Int) - hold.tmod (50:Int)*(20:Int) - (1:Int))) (10000:Int)] [Rng.mk (0:Int) ((1:Int)+one.tmod (9998:Int)) (1:Int),Rng.mk ((1:Int)+one.tmod (9998:Int)) ((1:Int)+one.tmod (9998:Int)+(1:Int)+two.tmod ((9999:Int) - ((1:Int)+one.tmod (9998:Int)))) (2:Int),Rng.mk ((1:Int)+one.tmod (9998:Int)+(1:Int)+two.tmod ((9999:Int) - ((1:Int)+one.tmod (9998:Int)))) (10000:Int) (3:Int)] (Ex.mk (1:Int) (B8 []) (B8 []) [] [])]).length/\InI (Qd+1)/\z89 (Qd+1) (G8++[Exper.mk y9 y7 y4 (B8 [115]++bsOf [Go.IntKind.u8.wrap ((97:Int)+salt.tmod (26:Int))]++bsOf [Go.IntKind.u8.wrap ((48:Int)+Go.IntKind.u8.wrap Qd)]) (2:Int) [Spn.mk (hold.tmod (50:Int)*(20:Int)+(1:Int)+cut.tmod ((10000:Int) - hold.tmod (50:Int)*(20:Int) - (1:Int))) (10000:Int)] [Rng.mk (0:Int) ((1:Int)+one.tmod (9998:Int)) (1:Int),Rng.mk ((1:Int)+one.tmod (9998:Int)) ((1:Int)+one.tmod (9998:Int)+(1:Int)+two.tmod ((9999:Int) - ((1:Int)+one.tmod (9998:Int)))) (2:Int),Rng.mk ((1:Int)+one.tmod (9998:Int)+(1:Int)+two.tmod ((9999:Int) - ((1:Int)+one.tmod (9998:Int)))) (10000:Int) (3:Int)] (Ex.mk (1:Int) (B8 []) (B8 []) [] [])])) (Sml (G8++[Exper.mk y9 y7 y4 (B8 [115]++bsOf [Go.IntKind.u8.wrap ((97:Int)+salt.tmod (26:Int))]++bsOf [Go.IntKind.u8.wrap ((48:Int)+Go.IntKind.u8.wrap Qd)]) (2:Int) [Spn.mk (hold.tmod (50:Int)*(20:Int)) (hold.tmod (50:Int)*(20:Int)+(1:Int)+cut.tmod ((10000:Int) - hold.tmod (50:Int)*(20:Int) - (1:Int)))] [Rng.mk (0:Int) ((1:Int)+one.tmod (9998:Int)) (1:Int),Rng.mk ((1:Int)+one.tmod (9998:Int)) ((1:Int)+one.tmod (9998:Int)+(1:Int)+two.tmod ((9999:Int) - ((1:Int)+one.tmod (9998:Int)))) (2:Int),Rng.mk ((1:Int)+one.tmod (9998:Int)+(1:Int)+two.tmod ((9999:Int) - ((1:Int)+one.tmod (9998:Int)))) (10000:Int) (3:Int)] (Ex.mk (1:Int) (B8 []) (B8 []) [] [])]).length/\InI (Qd+1)/\z89 (Qd+1) (G8++[Exper.mk y9 y7 y4 (B8 [115]++bsOf [Go.IntKind.u8.wrap ((97:Int)+salt.tmod (26:Int))]++bsOf [Go.IntKind.u8.wrap ((48:Int)+Go.IntKind.u8.wrap Qd)]) (2:Int) [Spn.mk (hold.tmod (50:Int)*(20:Int)) (hold.tmod (50:Int)*(20:Int)+(1:Int)+cut.tmod ((10000:Int) - hold.tmod (50:Int)*(20:Int) - (1:Int)))] [Rng.mk (0:Int) ((1:Int)+one.tmod (9998:Int)) (1:Int),Rng.mk ((1:Int)+one.tmod (9998:Int)) ((1:Int)+one.tmod (9998:Int)+(1:Int)+two.tmod ((9999:Int) - ((1:Int)+one.tmod (9998:Int)))) (2:Int),Rng.mk ((1:Int)+one.tmod (9998:Int)+(1:Int)+two.tmod ((9999:Int) - ((1:Int)+one.tmod (9998:Int)))) (10000:Int) (3:Int)] (Ex.mk (1:Int) (B8 []) (B8 []) [] [])])))/\(↑((B8 [115]++bsOf [Go.IntKind.u8.wrap ((97:Int)+salt.tmod (26:Int))]).size+(bsOf [Go.IntKind.u8.wrap ((48:Int)+Go.IntKind.u8.wrap Qd)]).size):Int)<=(9223372036854775807:Int)/\((0:Int)<=Qd/\Qd<(↑[B8 [98,108,117,101],B8 [102,97,115,116],B8 [103,114,101,101,110],B8 [115,108,111,119]].length:Int))/\ ∀y9,[B8 [98,108,117,101],B8 [102,97,115,116],B8 [103,114,101,101,110],B8 [115,108,111,119]][Qd.toNat]? =some y9->Cnd ((2:Int)<=Qd) (Sml (G8++[Exper.mk y9 y7 y4 (B8 [115]++bsOf [Go.IntKind.u8.wrap ((97:Int)+salt.tmod (26:Int))]++bsOf [Go.IntKind.u8.wrap ((48:Int)+Go.IntKind.u8.wrap Qd)]) (2:Int) [Spn.mk (hold.tmod (50:Int)*(20:Int)+(1:Int)+cut.tmod ((10000:Int) - hold.tmod (50:Int)*(20:Int) - (1:Int))) (10000:Int)] [Rng.mk (0:Int) ((1:Int)+one.tmod (9998:Int)) (1:Int),Rng.mk ((1:Int)+one.tmod (9998:Int)) ((1:Int)+one.tmod (9998:Int)+(1:Int)+two.tmod ((9999:Int) - ((1:Int)+one.tmod (9998:Int)))) (2:Int),Rng.mk ((1:Int)+one.tmod (9998:Int)+(1:Int)+two.tmod ((9999:Int) - ((1:Int)+one.tmod (9998:Int)))) (10000:Int) (3:Int)] (Ex.mk (1:Int) (B8 []) (B8 []) [] [])]).length/\InI (Qd+1)/\z89 (Qd+1) (G8++[Exper.mk y9 y7 y4 (B8 [115]++bsOf [Go.IntKind.u8.wrap ((97:Int)+salt.tmod (26:Int))]++bsOf [Go.IntKind.u8.wrap ((48:Int)+Go.IntKind.u8.wrap Qd)]) (2:Int) [Spn.mk (hold.tmod (50:Int)*(20:Int)+(1:Int)+cut.tmod ((10000:Int) - hold.tmod (50:Int)*(20:Int) - (1:Int))) (10000:Int)] [Rng.mk (0:Int) ((1:Int)+one.tmod (9998:Int)) (1:Int),Rng.mk ((1:Int)+one.tmod (9998:Int)) ((1:Int)+one.tmod (9998:Int)+(1:Int)+two.tmod ((9999:Int) - ((1:Int)+one.tmod (9998:Int)))) (2:Int),Rng.mk ((1:Int)+one.tmod (9998:Int)+(1:Int)+two.tmod ((9999:Int) - ((1:Int)+one.tmod (9998:Int)))) (10000:Int) (3:Int)] (Ex.mk (1:Int) (B8 []) (B8 []) [] [])])) (Sml (G8++[Exper.mk y9 y7 y4 (B8 [115]++bsOf [Go.IntKind.u8.wrap ((97:Int)+salt.tmod (26:Int))]++bsOf [Go.IntKind.u8.wrap ((48:Int)+Go.IntKind.u8.wrap Qd)]) (2:Int) [Spn.mk (hold.tmod (50:Int)*(20:Int)) (hold.tmod (50:Int)*(20:Int)+(1:Int)+cut.tmod ((10000:Int) - hold.tmod (50:Int)*(20:Int) - (1:Int)))] [Rng.mk (0:Int) ((1:Int)+one.tmod (9998:Int)) (1:Int),Rng.mk ((1:Int)+one.tmod (9998:Int)) ((1:Int)+one.tmod (9998:Int)+(1:Int)+two.tmod ((9999:Int) - ((1:Int)+one.tmod (9998:Int)))) (2:Int),Rng.mk ((1:Int)+one.tmod (9998:Int)+(1:Int)+two.tmod ((9999:Int) - ((1:Int)+one.tmod (9998:Int)))) (10000:Int) (3:Int)] (Ex.mk (1:Int) (B8 []) (B8 []) [] [])]).length/\InI (Qd+1)/\z89 (Qd+1) (G8++[Exper.mk y9 y7 y4 (B8 [115]++bsOf [Go.IntKind.u8.wrap ((97:Int)+salt.tmod (26:Int))]++bsOf [Go.IntKind.u8.wrap ((48:Int)+Go.IntKind.u8.wrap Qd)]) (2:Int) [Spn.mk (hold.tmod (50:Int)*(20:Int)) (hold.tmod (50:Int)*(20:Int)+(1:Int)+cut.tmod ((10000:Int) - hold.tmod (50:Int)*(20:Int) - (1:Int)))] [Rng.mk (0:Int) ((1:Int)+one.tmod (9998:Int)) (1:Int),Rng.mk ((1:Int)+one.tmod (9998:Int)) ((1:Int)+one.tmod (9998:Int)+(1:Int)+two.tmod ((9999:Int) - ((1:Int)+one.tmod (9998:Int)))) (2:Int),Rng.mk ((1:Int)+one.tmod (9998:Int)+(1:Int)+two.tmod ((9999:Int) - ((1:Int)+one.tmod (9998:Int)))) (10000:Int) (3:Int)] (Ex.mk (1:Int) (B8 []) (B8 []) [] [])])))/\(↑((B8 [115]++bsOf [Go.IntKind.u8.wrap ((97:Int)+salt.tmod (26:Int))]).size+(bsOf [Go.IntKind.u8.wrap ((48:Int)+Go.IntKind.u8.wrap Qd)]).size):Int)<=(9223372036854775807:Int)/\(((0:Int)<=Qd/\Qd<(↑[B8 [98,108,117,101],B8 [102,97,115,116],B8 [103,114,101,101,110],B8 [115,108,111,119]].length:Int))/\ ∀y6,[B8 [98,108,117,101],B8 [102,97,115,116],B8 [103,114,101,101,110],B8 [115,108,111,119]][Qd.toNat]? =some y6->Wm fun q4i=>((0:Int)<=Qd.tmod (2:Int)/\Qd.tmod (2:Int)<(↑q4i.length:Int))/\ ∀y9,q4i[(Qd.tmod (2:Int)).toNat]? =some y9->Cnd ((2:Int)<=Qd) (Sml (G8++[Exper.mk y6 y9 y4 (B8 [115]++bsOf [Go.IntKind.u8.wrap ((97:Int)+salt.tmod (26:Int))]++bsOf [Go.IntKind.u8.wrap ((48:Int)+Go.IntKind.u8.wrap Qd)]) (2:Int) [Spn.mk (hold.tmod (50:Int)*(20:Int)+(1:Int)+cut.tmod ((10000:Int) - hold.tmod (50:Int)*(20:Int) - (1:Int))) (10000:Int)] [Rng.mk (0:Int) ((1:Int)+one.tmod (9998:Int)) (1:Int),Rng.mk ((1:Int)+one.tmod (9998:Int)) ((1:Int)+one.tmod (9998:Int)+(1:Int)+two.tmod ((9999:Int) - ((1:Int)+one.tmod (9998:Int)))) (2:Int),Rng.mk ((1:Int)+one.tmod (9998:Int)+(1:Int)+two.tmod ((9999:Int) - ((1:Int)+one.tmod (9998:Int)))) (10000:Int) (3:Int)] (Ex.mk (1:Int) (B8 []) (B8 []) [] [])]).length/\InI (Qd+1)/\z89 (Qd+1) (G8++[Exper.mk y6 y9 y4 (B8 [115]++bsOf [Go.IntKind.u8.wrap ((97:Int)+salt.tmod (26:Int))]++bsOf [Go.IntKind.u8.wrap ((48:Int)+Go.IntKind.u8.wrap Qd)]) (2:Int) [Spn.mk (hold.tmod (50:Int)*(20:Int)+(1:Int)+cut.tmod ((10000:Int) - hold.tmod (50:Int)*(20:Int) - (1:Int))) (10000:Int)] [Rng.mk (0:Int) ((1:Int)+one.tmod (9998:Int)) (1:Int),Rng.mk ((1:Int)+one.tmod (9998:Int)) ((1:Int)+one.tmod (9998:Int)+(1:Int)+two.tmod ((9999:Int) - ((1:Int)+one.tmod (9998:Int)))) (2:Int),Rng.mk ((1:Int)+one.tmod (9998:Int)+(1:Int)+two.tmod ((9999:Int) - ((1:Int)+one.tmod (9998:Int)))) (10000:Int) (3:Int)] (Ex.mk (1:Int) (B8 []) (B8 []) [] [])])) (Sml (G8++[Exper.mk y6 y9 y4 (B8 [115]++bsOf [Go.IntKind.u8.wrap ((97:Int)+salt.tmod (26:Int))]++bsOf [Go.IntKind.u8.wrap ((48:Int)+Go.IntKind.u8.wrap Qd)]) (2:Int) [Spn.mk (hold.tmod (50:Int)*(20:Int)) (hold.tmod (50:Int)*(20:Int)+(1:Int)+cut.tmod ((10000:Int) - hold.tmod (50:Int)*(20:Int) - (1:Int)))] [Rng.mk (0:Int) ((1:Int)+one.tmod (9998:Int)) (1:Int),Rng.mk ((1:Int)+one.tmod (9998:Int)) ((1:Int)+one.tmod (9998:Int)+(1:Int)+two.tmod ((9999:Int) - ((1:Int)+one.tmod (9998:Int)))) (2:Int),Rng.mk ((1:Int)+one.tmod (9998:Int)+(1:Int)+two.tmod ((9999:Int) - ((1:Int)+one.tmod (9998:Int)))) (10000:Int) (3:Int)] (Ex.mk (1:Int) (B8 []) (B8 []) [] [])]).length/\InI (Qd+1)/\z89 (Qd+1) (G8++[Exper.mk y6 y9 y4 (B8 [115]++bsOf [Go.IntKind.u8.wrap ((97:Int)+salt.tmod (26:Int))]++bsOf [Go.IntKind.u8.wrap ((48:Int)+Go.IntKind.u8.wrap Qd)]) (2:Int) [Spn.mk (hold.tmod (50:Int)*(20:Int)) (hold.tmod (50:Int)*(20:Int)+(1:Int)+cut.tmod ((10000:Int) - hold.tmod (50:Int)*(20:Int) - (1:Int)))] [Rng.mk (0:Int) ((1:Int)+one.tmod (9998:Int)) (1:Int),Rng.mk ((1:Int)+one.tmod (9998:Int)) ((1:Int)+one.tmod (9998:Int)+(1:Int)+two.tmod ((9999:Int) - ((1:Int)+one.tmod (9998:Int)))) (2:Int),Rng.mk ((1:Int)+one.tmod (9998:Int)+(1:Int)+two.tmod ((9999:Int) - ((1:Int)+one.tmod (9998:Int)))) (10000:Int) (3:Int)] (Ex.mk (1:Int) (B8 []) (B8 []) [] [])])))/\Wm fun Jc=>((0:Int)<=Qd.tmod (2:Int)/\Qd.tmod (2:Int)<(↑Jc.length:Int))/\ ∀y7,Jc[(Qd.tmod (2:Int)).toNat]? =some y7->((0:Int)<=Qd/\Qd<(↑[B8 [98,108,117,101],B8 [102,97,115,116],B8 [103,114,101,101,110],B8 [115,108,111,119]].length:Int))/\ ∀y9,[B8 [98,108,117,101],B8 [102,97,115,116],B8 [103,114,101,101,110],B8 [115,108,111,119]][Qd.toNat]? =some y9->Cnd ((2:Int)<=Qd) (Sml (G8++[Exper.mk y9 y7 y4 (B8 [115]++bsOf [Go.IntKind.u8.wrap ((97:Int)+salt.tmod (26:Int))]++bsOf [Go.IntKind.u8.wrap ((48:Int)+Go.IntKind.u8.wrap Qd)]) (2:Int) [Spn.mk (hold.tmod (50:Int)*(20:Int)+(1:Int)+cut.tmod ((10000:Int) - hold.tmod (50:Int)*(20:Int) - (1:Int))) (10000:Int)] [Rng.mk (0:Int) ((1:Int)+one.tmod (9998:Int)) (1:Int),Rng.mk ((1:Int)+one.tmod (9998:Int)) ((1:Int)+one.tmod (9998:Int)+(1:Int)+two.tmod ((9999:Int) - ((1:Int)+one.tmod (9998:Int)))) (2:Int),Rng.mk ((1:Int)+one.tmod (9998:Int)+(1:Int)+two.tmod ((9999:Int) - ((1:Int)+one.tmod (9998:Int)))) (10000:Int) (3:Int)] (Ex.mk (1:Int) (B8 []) (B8 []) [] [])]).length/\InI (Qd+1)/\z89 (Qd+1) (G8++[Exper.mk y9 y7 y4 (B8 [115]++bsOf [Go.IntKind.u8.wrap ((97:Int)+salt.tmod (26:Int))]++bsOf [Go.IntKind.u8.wrap ((48:Int)+Go.IntKind.u8.wrap Qd)]) (2:Int) [Spn.mk (hold.tmod (50:Int)*(20:Int)+(1:Int)+cut.tmod ((10000:Int) - hold.tmod (50:Int)*(20:Int) - (1:Int))) (10000:Int)] [Rng.mk (0:Int) ((1:Int)+one.tmod (9998:Int)) (1:Int),Rng.mk ((1:Int)+one.tmod (9998:Int)) ((1:Int)+one.tmod (9998:Int)+(1:Int)+two.tmod ((9999:Int) - ((1:Int)+one.tmod (9998:Int)))) (2:Int),Rng.mk ((1:Int)+one.tmod (9998:Int)+(1:Int)+two.tmod ((9999:Int) - ((1:Int)+one.tmod (9998:Int)))) (10000:Int) (3:Int)] (Ex.mk (1:Int) (B8 []) (B8 []) [] [])])) (Sml (G8++[Exper.mk y9 y7 y4 (B8 [115]++bsOf [Go.IntKind.u8.wrap ((97:Int)+salt.tmod (26:Int))]++bsOf [Go.IntKind.u8.wrap ((48:Int)+Go.IntKind.u8.wrap Qd)]) (2:Int) [Spn.mk (hold.tmod (50:Int)*(20:Int)) (hold.tmod (50:Int)*(20:Int)+(1:Int)+cut.tmod ((10000:Int) - hold.tmod (50:Int)*(20:Int) - (1:Int)))] [Rng.mk (0:Int) ((1:Int)+one.tmod (9998:Int)) (1:Int),Rng.mk ((1:Int)+one.tmod (9998:Int)) ((1:Int)+one.tmod (9998:Int)+(1:Int)+two.tmod ((9999:Int) - ((1:Int)+one.tmod (9998:Int)))) (2:Int),Rng.mk ((1:Int)+one.tmod (9998:Int)+(1:Int)+two.tmod ((9999:Int) - ((1:Int)+one.tmod (9998:Int)))) (10000:Int) (3:Int)] (Ex.mk (1:Int) (B8 []) (B8 []) [] [])]).length/\InI (Qd+1)/\z89 (Qd+1) (G8++[Exper.mk y9 y7 y4 (B8 [115]++bsOf [Go.IntKind.u8.wrap ((97:Int)+salt.tmod (26:Int))]++bsOf [Go.IntKind.u8.wrap ((48:Int)+Go.IntKind.u8.wrap Qd)]) (2:Int) [Spn.mk (hold.tmod (50:Int)*(20:Int)) (hold.tmod (50:Int)*(20:Int)+(1:Int)+cut.tmod ((10000:Int) - hold.tmod (50:Int)*(20:Int) - (1:Int)))] [Rng.mk (0:Int) ((1:Int)+one.tmod (9998:Int)) (1:Int),Rng.mk ((1:Int)+one.tmod (9998:Int)) ((1:Int)+one.tmod (9998:Int)+(1:Int)+two.tmod ((9999:Int) - ((1:Int)+one.tmod (9998:Int)))) (2:Int),Rng.mk ((1:Int)+one.tmod (9998:Int)+(1:Int)+two.tmod ((9999:Int) - ((1:Int)+one.tmod (9998:Int)))) (10000:Int) (3:Int)] (Ex.mk (1:Int) (B8 []) (B8 []) [] [])]))) (K (Envt.mk (Sett.mk (B8 []) (B8 []) (0:Int)) [] [] Gh Gi G8))) (0:Int) [])) (0:Int) [])) (0:Int) []
def Vt:Jf:=q0k q9p
abbrev z0w:Type:=ByteArray->(Subj->Prop)->Prop
def z6m:z0w:=fun id K=>K (Subj.mk [Ctxt.mk (B8 [117,115,101,114]) id []])
abbrev Wt:Type:=Subj->ByteArray->(Int->Prop)->Prop
def Uj:Wt:=fun s kind K=>Fits s.1->Lp1 (fun Qm q6e=>CAt s.1 Qm (fun y2=>Cnd (y2.1=kind) (K Qm) (InI (Qm+1)/\q6e (Qm+1))) (K (-1:Int))) (0:Int)
abbrev J9:Type:=Val->(Val->Prop)->Prop
def Wa:J9:=fun v K=> ∀n0,(n0=true->v.4=[])->Cnd (n0=true) (K (Val.mk v.1 v.2 v.3 [])) (Sml ([]++v.4).length/\K (Val.mk v.1 v.2 v.3 ([]++v.4)))
abbrev Wu:Type:=Attr->(Attr->Prop)->Prop
def Bb(Ze:J9):Wu:=fun a K=>Ze (Val.mk a.2.1 a.2.2 a.2.3 a.2.4) fun Qa=>K (Attr.mk a.1 Qa)
def U0:Wu:=Bb Wa
abbrev Uk:Type:=Ctxt->(Ctxt->Prop)->Prop
def q2h(U7:Wu):Uk:=fun c K=>Fits c.3->((0:Int)<=(0:Int)/\(0:Int)<=(↑c.3.length:Int)/\Sml (↑c.3.length:Int).toNat)/\(Fits c.3->Lp2 (fun Qh Gi j76=>CAt c.3 Gi (fun y3=>U7 (Attr.mk y3.1 (Val.mk y3.2.1 y3.2.2 y3.2.3 y3.2.4)) fun Qt=>Sml (Qh++[Attr.mk Qt.1 (Val.mk Qt.2.1 Qt.2.2 Qt.2.3 Qt.2.4)]).length/\InI (Gi+1)/\j76 (Qh++[Attr.mk Qt.1 (Val.mk Qt.2.1 Qt.2.2 Qt.2.3 Qt.2.4)]) (Gi+1)) (K (Ctxt.mk c.1 c.2 Qh))) (List.replicate (Int.toNat (0:Int)) (Attr.mk (B8 []) (Val.mk (0:Int) (0:Int) (B8 []) []))) (0:Int))
def Hx:Uk:=q2h U0
abbrev Z5:Type:=Subj->ByteArray->(Ctxt->Bool->Prop)->Prop
def q3x(Zy:Wt)(R2:Uk):Z5:=fun s kind K=>Zy (Subj.mk s.1) kind fun Qa=>Cnd (Qa<0) (K (Ctxt.mk (B8 []) (B8 []) []) false) (At s.1 Qa fun y1=>R2 y1 fun Qd=>K Qd true)
def V3:Z5:=q3x Uj Hx
abbrev Br:Type:=List (List Int)->(List (Int)->Prop)->Prop
def Bt:Br:=fun fields K=>Fits fields->Lp2 (fun Qm q1s w31=>CAt fields q1s (fun y2=>Lp2 (fun Qc Ui j75=>Cnd ((0:Int)<=Ui) (Fits y2->InI ((8:Int)*Ui)/\(0:Int)<=(8:Int)*Ui/\Sml (Qc++[Go.IntKind.u8.wrap ((Go.IntKind.u64.wrap (↑y2.length:Int)).fdiv ((2:Int) ^ Min.min ((8:Int)*Ui).toNat (64:Nat)))]).length/\InI (Ui - 1)/\j75 (Qc++[Go.IntKind.u8.wrap ((Go.IntKind.u64.wrap (↑y2.length:Int)).fdiv ((2:Int) ^ Min.min ((8:Int)*Ui).toNat (64:Nat)))]) (Ui - 1)) (Sml (Qc++y2).length/\InI (q1s+1)/\w31 (Qc++y2) (q1s+1))) Qm (7:Int)) (K Qm)) [] (0:Int)
abbrev W8:Type:=Int->Int->(Int->Prop)->Prop
def W9:W8:=fun x k K=>(0:Int)<=Go.IntKind.u64.wrap (↑(BitVec.ofInt (64:Nat) (Go.IntKind.u64.wrap k) &&& BitVec.ofInt (64:Nat) (63:Int)).toNat:Int)/\(0:Int)<=Go.IntKind.u64.wrap ((64:Int) - Go.IntKind.u64.wrap (↑(BitVec.ofInt (64:Nat) (Go.IntKind.u64.wrap k) &&& BitVec.ofInt (64:Nat) (63:Int)).toNat:Int))/\K (Go.IntKind.u64.wrap (↑(BitVec.ofInt (64:Nat) (Go.IntKind.u64.wrap (x*2 ^ Min.min (Go.IntKind.u64.wrap (↑(BitVec.ofInt (64:Nat) (Go.IntKind.u64.wrap k) &&& BitVec.ofInt (64:Nat) (63:Int)).toNat:Int)).toNat (64:Nat)))|||BitVec.ofInt (64:Nat) (x.fdiv ((2:Int) ^ Min.min (Go.IntKind.u64.wrap ((64:Int) - Go.IntKind.u64.wrap (↑(BitVec.ofInt (64:Nat) (Go.IntKind.u64.wrap k) &&& BitVec.ofInt (64:Nat) (63:Int)).toNat:Int))).toNat (64:Nat)))).toNat:Int))
abbrev Zm:Type:=Int->Int->Int->Int->Int->(Int->Int->Int->Int->Prop)->Prop
def Ge(Q6:W8):Zm:=fun v0 v1 v2 v3 n K=>Lp5 (fun Qa Gh z9a z9b j2k v0e=>Cnd (Qa<n) (Q6 z9a (13:Int) fun Qm=>Q6 (Go.IntKind.u64.wrap (Gh+z9a)) (32:Int) fun Qh=>Q6 j2k (16:Int) fun Qd=>Q6 (Go.IntKind.u64.wrap (↑(BitVec.ofInt (64:Nat) Qd ^^^ BitVec.ofInt (64:Nat) (Go.IntKind.u64.wrap (z9b+j2k))).toNat:Int)) (21:Int) fun Qc=>Q6 (Go.IntKind.u64.wrap (↑(BitVec.ofInt (64:Nat) Qm ^^^ BitVec.ofInt (64:Nat) (Go.IntKind.u64.wrap (Gh+z9a))).toNat:Int)) (17:Int) fun Qt=>Q6 (Go.IntKind.u64.wrap (Go.IntKind.u64.wrap (z9b+j2k)+Go.IntKind.u64.wrap (↑(BitVec.ofInt (64:Nat) Qm ^^^ BitVec.ofInt (64:Nat) (Go.IntKind.u64.wrap (Gh+z9a))).toNat:Int))) (32:Int) fun Jc=>InI (Qa+1)/\v0e (Qa+1) (Go.IntKind.u64.wrap (Qh+Go.IntKind.u64.wrap (↑(BitVec.ofInt (64:Nat) Qd ^^^ BitVec.ofInt (64:Nat) (Go.IntKind.u64.wrap (z9b+j2k))).toNat:Int))) (Go.IntKind.u64.wrap (↑(BitVec.ofInt (64:Nat) Qt ^^^ BitVec.ofInt (64:Nat) (Go.IntKind.u64.wrap (Go.IntKind.u64.wrap (z9b+j2k)+Go.IntKind.u64.wrap (↑(BitVec.ofInt (64:Nat) Qm ^^^ BitVec.ofInt (64:Nat) (Go.IntKind.u64.wrap (Gh+z9a))).toNat:Int)))).toNat:Int)) Jc (Go.IntKind.u64.wrap (↑(BitVec.ofInt (64:Nat) Qc ^^^ BitVec.ofInt (64:Nat) (Go.IntKind.u64.wrap (Qh+Go.IntKind.u64.wrap (↑(BitVec.ofInt (64:Nat) Qd ^^^ BitVec.ofInt (64:Nat) (Go.IntKind.u64.wrap (z9b+j2k))).toNat:Int)))).toNat:Int))) (K Gh z9a z9b j2k)) (0:Int) v0 v1 v2 v3
def Q8:Zm:=Ge W9
abbrev Wb:Type:=Int->Int->Int->Int->Int->(Int->Int->Int->Int->Prop)->Prop
def Hy(Q1:Zm):Wb:=fun v0 v1 v2 v3 m K=>Q1 v0 v1 v2 (Go.IntKind.u64.wrap (↑(BitVec.ofInt (64:Nat) v3 ^^^ BitVec.ofInt (64:Nat) m).toNat:Int)) (2:Int) fun Qa Gh z9a z9b=>K (Go.IntKind.u64.wrap (↑(BitVec.ofInt (64:Nat) Qa ^^^ BitVec.ofInt (64:Nat) m).toNat:Int)) Gh z9a z9b
def V9:Wb:=Hy Q8
abbrev q0a:Type:=Int->Int->List (Int)->(Int->Prop)->Prop
def q64(Wi:Wb)(Q1:Zm):q0a:=fun k0 k1 b K=>Fits b->(0:Int)<=(56:Int)/\Lp5 (fun Qm q1s z8f v0f v2m v3x=>InI (Qm+8)/\(Fits b->Cnd (Qm+8<=(↑b.length:Int)) (Lp2 (fun Qd G8 z89=>Cnd (G8<8) (InI (Qm+G8)/\At b (Qm+G8) fun y4=>InI ((8:Int)*G8)/\(0:Int)<=(8:Int)*G8/\InI (G8+1)/\z89 (Go.IntKind.u64.wrap (↑(BitVec.ofInt (64:Nat) Qd|||BitVec.ofInt (64:Nat) (Go.IntKind.u64.wrap (Go.IntKind.u64.wrap y4*2 ^ Min.min ((8:Int)*G8).toNat (64:Nat)))).toNat:Int)) (G8+1)) (Wi q1s z8f v0f v2m Qd fun Qc Ui v3y v3z=>InI (Qm+8)/\v3x (Qm+8) Qc Ui v3y v3z)) (0:Int) (0:Int)) (Fits b->(8:Int)≠(0:Int)/\Lp2 (fun Qc Ui j75=>Cnd (Ui<(↑b.length:Int).tmod (8:Int)) (Fits b->Fits b->(8:Int)≠(0:Int)/\InI ((↑b.length:Int) - (↑b.length:Int).tmod (8:Int))/\InI ((↑b.length:Int) - (↑b.length:Int).tmod (8:Int)+Ui)/\((0:Int)<=(↑b.length:Int) - (↑b.length:Int).tmod (8:Int)+Ui/\(↑b.length:Int) - (↑b.length:Int).tmod (8:Int)+Ui<(↑b.length:Int))/\ ∀y7,b[((↑b.length:Int) - (↑b.length:Int).tmod (8:Int)+Ui).toNat]? =some y7->InI ((8:Int)*Ui)/\(0:Int)<=(8:Int)*Ui/\InI (Ui+1)/\j75 (Go.IntKind.u64.wrap (↑(BitVec.ofInt (64:Nat) Qc|||BitVec.ofInt (64:Nat) (Go.IntKind.u64.wrap (Go.IntKind.u64.wrap y7*2 ^ Min.min ((8:Int)*Ui).toNat (64:Nat)))).toNat:Int)) (Ui+1)) (Wi q1s z8f v0f v2m Qc fun Qt q9i v4b v4c=>Q1 Qt q9i (Go.IntKind.u64.wrap (↑(BitVec.ofInt (64:Nat) v4b ^^^ BitVec.ofInt (64:Nat) (255:Int)).toNat:Int)) v4c (4:Int) fun Jc q8z v30 v32=>K (Go.IntKind.u64.wrap (↑(BitVec.ofInt (64:Nat) (Go.IntKind.u64.wrap (↑(BitVec.ofInt (64:Nat) (Go.IntKind.u64.wrap (↑(BitVec.ofInt (64:Nat) Jc ^^^ BitVec.ofInt (64:Nat) q8z).toNat:Int)) ^^^ BitVec.ofInt (64:Nat) v30).toNat:Int)) ^^^ BitVec.ofInt (64:Nat) v32).toNat:Int)))) (Go.IntKind.u64.wrap (Go.IntKind.u64.wrap (↑b.length:Int)*2 ^ Min.min (Int.toNat (56:Int)) (64:Nat))) (0:Int)))) (0:Int) (Go.IntKind.u64.wrap (↑(BitVec.ofInt (64:Nat) k0 ^^^ BitVec.ofInt (64:Nat) (8317987319222330741:Int)).toNat:Int)) (Go.IntKind.u64.wrap (↑(BitVec.ofInt (64:Nat) k1 ^^^ BitVec.ofInt (64:Nat) (7237128888997146477:Int)).toNat:Int)) (Go.IntKind.u64.wrap (↑(BitVec.ofInt (64:Nat) k0 ^^^ BitVec.ofInt (64:Nat) (7816392313619706465:Int)).toNat:Int)) (Go.IntKind.u64.wrap (↑(BitVec.ofInt (64:Nat) k1 ^^^ BitVec.ofInt (64:Nat) (8387220255154660723:Int)).toNat:Int))
def q3f:q0a:=q64 V9 Q8
abbrev Hz:Type:=Int->List (List Int)->(Int->Prop)->Prop
def q48(B0:Br)(q3q:q0a):Hz:=fun domain fields K=>B0 fields fun Qa=>q3q domain (0:Int) Qa fun Qm=>K Qm
def q05:Hz:=q48 Bt q3f
abbrev Jr:Type:=ByteArray->ByteArray->(Int->Prop)->Prop
def q9q(q1t:Hz):Jr:=fun salt key K=>Sml salt.size/\Sml key.size/\q1t (1:Int) [List.map (fun b=>(↑b.toNat:Int)) (salt,key,()).1.data.toList,List.map (fun b=>(↑b.toNat:Int)) (salt,key,()).2.1.data.toList] fun Qa=>(10000:Int)≠(0:Int)/\InI (Qa.tmod (10000:Int))/\K (Qa.tmod (10000:Int))
def Va:Jr:=q9q q05
abbrev H0:Type:=List (Frc)->ByteArray->(Frc->Bool->Prop)->Prop
def H1:H0:=fun l layer K=>Fits l->Lp4 (fun Qm q1s z8f v0f v4d=>CAt l Qm (fun y2=>Cnd (y2.1=layer) (K y2 true) (InI (Qm+1)/\v4d (Qm+1) q1s z8f v0f)) (K (Frc.mk (B8 []) (B8 []) (0:Int)) false)) (0:Int) (B8 []) (B8 []) (0:Int)
abbrev q06:Type:=Envt->Frc->(Bool->Prop)->Prop
def q07:q06:=fun v f K=>Fits v.6->Lp1 (fun Qm q6e=>CAt v.6 Qm (fun y2=>Cnd (y2.1=f.2) (Cnd (y2.2=f.1) (Cnd (y2.5=2) (Fits y2.7->Lp1 (fun Qt j2l=>CAt y2.7 Qt (fun y6=>Cnd (y6.3=f.3) (Cnd ((0:Int)<=Qt) (K (decide ((0:Int)<=Qm))) (InI (Qm+1)/\q6e (Qm+1))) (InI (Qt+1)/\j2l (Qt+1))) (Cnd ((0:Int)<=(-1:Int)) (K (decide ((0:Int)<=Qm))) (InI (Qm+1)/\q6e (Qm+1)))) (0:Int)) (InI (Qm+1)/\q6e (Qm+1))) (InI (Qm+1)/\q6e (Qm+1))) (InI (Qm+1)/\q6e (Qm+1))) (K (decide ((0:Int)<=(-1:Int))))) (0:Int)
abbrev H2:Type:=Envt->Subj->(Bool->Prop)->Prop
def q49(Q4:Z5)(Qs:Jr):H2:=fun v s K=>Cnd (v.1.3<=0) (K false) (Q4 (Subj.mk s.1) v.1.2 fun Qa Gh=>Cnd (Gh=true) (Qs v.1.1 Qa.2 fun Qm=>K (decide (Qm<v.1.3))) (K false))
def q08:H2:=q49 V3 Va
abbrev U1:Type:=Int->(Bool->Prop)->Prop
def Vb:U1:=fun op K=>Cnd ((6:Int)<=op) (K (decide (op<=15))) (K false)
abbrev Qx:Type:=List (ByteArray)->List (ByteArray)->(Bool->Prop)->Prop
def Q7:Qx:=fun s1 s2 K=>Fits s1->Fits s2->Cnd ((↑s1.length:Int)=(↑s2.length:Int)) (Fits s1->Lp1 (fun Qd q80=>CAt s1 Qd (fun y4=>At s2 Qd fun y6=>Cnd (y4=y6) (InI (Qd+1)/\q80 (Qd+1)) (K false)) (K true)) (0:Int)) (K false)
abbrev q0b:Type:=Val->Val->(Bool->Prop)->Prop
def q65(Qk:Qx):q0b:=fun a b K=>Cnd (a.1=b.1) (Cnd (a.2=b.2) (Cnd (a.3=b.3) (Qk a.4 b.4 fun Qa=>K Qa) (K false)) (K false)) (K false)
def Hp:q0b:=q65 Q7
abbrev Ul:Type:=Ex->Ex->(Bool->Prop)->Prop
def q9r(q3r:q0b)(X:Ul):Ul:=fun a b K=>Cnd (a.1=b.1) (Cnd (a.2=b.2) (Cnd (a.3=b.3) (Fits a.4->Fits b.4->Cnd ((↑a.4.length:Int)=(↑b.4.length:Int)) (Fits a.4->Lp1 (fun Qd q80=>CAt a.4 Qd (fun y4=>At b.4 Qd fun y6=>q3r y4 y6 fun q4i=>Cnd (q4i=true) (InI (Qd+1)/\q80 (Qd+1)) (K false)) (Fits a.5->Fits b.5->Cnd ((↑a.5.length:Int)=(↑b.5.length:Int)) (Fits a.5->Lp1 (fun Hr j9k=>CAt a.5 Hr (fun y8=>At b.5 Hr fun y10=>X (Ex.mk y8.1 y8.2 y8.3 y8.4 y8.5) (Ex.mk y10.1 y10.2 y10.3 y10.4 y10.5) fun q81=>Cnd (q81=true) (InI (Hr+1)/\j9k (Hr+1)) (K false)) (K true)) (0:Int)) (K false))) (0:Int)) (K false)) (K false)) (K false)) (K false)
def Hf:Ul:=fun a b K=> ∀X:Ul,(∀a b K,q9r Hp X a b K->X a b K)->X a b K
abbrev Jp:Type:=List (Ex)->Ex->(List (Ex)->Prop)->Prop
def q3y(Jl:U1)(q29:Ul)(X:Jp):Jp:=fun l e K=>Jn1 (fun Qa=>Fits e.5->Lp2 (fun Qh Gi j76=>CAt e.5 Gi (fun y3=>X Qh (Ex.mk y3.1 y3.2 y3.3 y3.4 y3.5) fun Qt=>InI (Gi+1)/\j76 Qt (Gi+1)) (K Qh)) Qa (0:Int)) fun z0g=>Jl e.1 fun Qm=>Cnd (Qm=true) (Fits l->Lp1 (fun Qd q80=>CAt l Qd (fun y4=>q29 (Ex.mk y4.1 y4.2 y4.3 y4.4 y4.5) (Ex.mk e.1 e.2 e.3 e.4 e.5) fun Jc=>Cnd (Jc=true) (Cnd ((0:Int)<=Qd) (z0g l) (Sml (l++[Ex.mk e.1 e.2 e.3 e.4 e.5]).length/\z0g (l++[Ex.mk e.1 e.2 e.3 e.4 e.5]))) (InI (Qd+1)/\q80 (Qd+1))) (Cnd ((0:Int)<=(-1:Int)) (z0g l) (Sml (l++[Ex.mk e.1 e.2 e.3 e.4 e.5]).length/\z0g (l++[Ex.mk e.1 e.2 e.3 e.4 e.5])))) (0:Int)) (Cnd (e.1=5) (Fits l->Lp1 (fun Qd q80=>CAt l Qd (fun y4=>q29 (Ex.mk y4.1 y4.2 y4.3 y4.4 y4.5) (Ex.mk e.1 e.2 e.3 e.4 e.5) fun Jc=>Cnd (Jc=true) (Cnd ((0:Int)<=Qd) (z0g l) (Sml (l++[Ex.mk e.1 e.2 e.3 e.4 e.5]).length/\z0g (l++[Ex.mk e.1 e.2 e.3 e.4 e.5]))) (InI (Qd+1)/\q80 (Qd+1))) (Cnd ((0:Int)<=(-1:Int)) (z0g l) (Sml (l++[Ex.mk e.1 e.2 e.3 e.4 e.5]).length/\z0g (l++[Ex.mk e.1 e.2 e.3 e.4 e.5])))) (0:Int)) (z0g l))
def Bu:Jp:=fun l e K=> ∀X:Jp,(∀l e K,q3y Vb Hf X l e K->X l e K)->X l e K
abbrev W4:Type:=Ex->(Ex->Prop)->Prop
def q66(Ze:J9)(X:W4):W4:=fun e K=>Fits e.4->((0:Int)<=(0:Int)/\(0:Int)<=(↑e.4.length:Int)/\Sml (↑e.4.length:Int).toNat)/\(Fits e.4->Lp2 (fun Qh Gi j76=>CAt e.4 Gi (fun y3=>Ze y3 fun Qt=>Sml (Qh++[Qt]).length/\InI (Gi+1)/\j76 (Qh++[Qt]) (Gi+1)) (Fits e.5->((0:Int)<=(0:Int)/\(0:Int)<=(↑e.5.length:Int)/\Sml (↑e.5.length:Int).toNat)/\(Fits e.5->Lp2 (fun Qt q9i v2c=>CAt e.5 q9i (fun y6=>X (Ex.mk y6.1 y6.2 y6.3 y6.4 y6.5) fun q4i=>Sml (Qt++[Ex.mk q4i.1 q4i.2 q4i.3 q4i.4 q4i.5]).length/\InI (q9i+1)/\v2c (Qt++[Ex.mk q4i.1 q4i.2 q4i.3 q4i.4 q4i.5]) (q9i+1)) (K (Ex.mk e.1 e.2 e.3 Qh Qt))) (List.replicate (Int.toNat (0:Int)) (Ex.mk (0:Int) (B8 []) (B8 []) [] [])) (0:Int)))) (List.replicate (Int.toNat (0:Int)) (Val.mk (0:Int) (0:Int) (B8 []) [])) (0:Int))
def q3g:W4:=fun e K=> ∀X:W4,(∀e K,q66 Wa X e K->X e K)->X e K
abbrev Gm:Type:=Ex->(List (Ex)->Prop)->Prop
def q3z(B1:Jp)(q3s:W4):Gm:=fun e K=>B1 [] (Ex.mk e.1 e.2 e.3 e.4 e.5) fun Qa=>Fits Qa->((0:Int)<=(0:Int)/\(0:Int)<=(↑Qa.length:Int)/\Sml (↑Qa.length:Int).toNat)/\(Fits Qa->Lp2 (fun Qd G8 z89=>CAt Qa G8 (fun y4=>q3s (Ex.mk y4.1 y4.2 y4.3 y4.4 y4.5) fun Jc=>Sml (Qd++[Ex.mk Jc.1 Jc.2 Jc.3 Jc.4 Jc.5]).length/\InI (G8+1)/\z89 (Qd++[Ex.mk Jc.1 Jc.2 Jc.3 Jc.4 Jc.5]) (G8+1)) (K Qd)) (List.replicate (Int.toNat (0:Int)) (Ex.mk (0:Int) (B8 []) (B8 []) [] [])) (0:Int))
def q30:Gm:=q3z Bu q3g
abbrev Q9:Type:=List (ByteArray)->(List (ByteArray)->Prop)->Prop
def Zv(x:List (ByteArray))(K:List (ByteArray)->Prop):Prop:=K (srt x)
abbrev Z3:Type:=List (ByteArray)->(List (ByteArray)->Prop)->Prop
def Z4(s:List (ByteArray))(K:List (ByteArray)->Prop):Prop:=K (cpt s)
abbrev Vu:Type:=Ex->(List (ByteArray)->Prop)->Prop
def q0l(B2:Gm)(Ql:Q9)(Zk:Z3):Vu:=fun e K=>B2 (Ex.mk e.1 e.2 e.3 e.4 e.5) fun Qa=>Fits Qa->Lp2 (fun Qh Gi j76=>CAt Qa Gi (fun y3=>Cnd (y3.1=5) (Sml (Qh++[y3.3]).length/\InI (Gi+1)/\j76 (Qh++[y3.3]) (Gi+1)) (InI (Gi+1)/\j76 Qh (Gi+1))) (Ql Qh fun Qd=>Zk Qd fun Qc=>K Qc)) [] (0:Int)
def Gz:Vu:=q0l q30 Zv Z4
abbrev q5a:Type:=List (ByteArray)->List (Edg)->(List (ByteArray)->Int->Prop)->Prop
def P_graph_Order(nodes:List (ByteArray))(edges:List (Edg))(K:List (ByteArray)->Int->Prop):Prop:=Go.Fl.P_graph_Order nodes (edges.map fun e=>(e.1,e.2)) K
abbrev Um:Type:=List (Seg)->(List (ByteArray)->Int->Prop)->Prop
def q2i(G9:Vu)(q1u:q5a):Um:=fun l K=>Fits l->Lp3 (fun Qm q1s z8f v0a=>CAt l z8f (fun y2=>Sml (Qm++[y2.1]).length/\G9 (Ex.mk y2.5.1 y2.5.2 y2.5.3 y2.5.4 y2.5.5) fun Qc=>Fits Qc->Lp2 (fun Jc q8z w6j=>CAt Qc q8z (fun y7=>Sml (Jc++[Edg.mk y2.1 y7]).length/\InI (q8z+1)/\w6j (Jc++[Edg.mk y2.1 y7]) (q8z+1)) (InI (z8f+1)/\v0a (Qm++[y2.1]) Jc (z8f+1))) q1s (0:Int)) (q1u Qm q1s fun Qh Gi=>K Qh Gi)) [] [] (0:Int)
def H3:Um:=q2i Gz P_graph_Order
abbrev Vv:Type:=Subj->ByteArray->ByteArray->(Val->Bool->Prop)->Prop
def q0m(Zy:Wt)(Ze:J9):Vv:=fun s kind name K=>Zy (Subj.mk s.1) kind fun Qa=>Cnd (Qa<0) (K (Val.mk (0:Int) (0:Int) (B8 []) []) false) (At s.1 Qa fun y1=>Cnd (name=B8 [107,101,121]) (K (Val.mk (3:Int) (0:Int) y1.2 []) true) (Fits y1.3->Lp5 (fun Qc Ui v3y v3z (v4e:List ByteArray) v4f=>CAt y1.3 Qc (fun y5=>Cnd (y5.1=name) (Ze (Val.mk y5.2.1 y5.2.2 y5.2.3 y5.2.4) fun Hr=>K Hr true) (InI (Qc+1)/\v4f (Qc+1) Ui v3y v3z v4e)) (K (Val.mk (0:Int) (0:Int) (B8 []) []) false)) (0:Int) (0:Int) (0:Int) (B8 []) []))
def G0:Vv:=q0m Uj Wa
abbrev H4:Type:=Val->Val->(Bool->Prop)->Prop
def q5b(Qk:Qx):H4:=fun a b K=>Cnd (a.1=b.1) (Cnd (a.2=b.2) (Cnd (a.3=b.3) (Qk a.4 b.4 fun Qa=>K Qa) (K false)) (K false)) (K false)
def H5:H4:=q5b Q7
abbrev Zj:Type:=ByteArray->ByteArray->(Bool->Prop)->Prop
def Zw:Zj:=fun s prefix_ K=>Cnd ((↑prefix_.size:Int)<=(↑s.size:Int)) (((0:Int)<=(0:Int)/\(0:Int)<=(↑prefix_.size:Int)/\(↑prefix_.size:Int)<=(↑s.size:Int))/\K (decide (s.extract (Int.toNat (0:Int)) (↑prefix_.size:Int).toNat=prefix_))) (K false)
abbrev Js:Type:=ByteArray->ByteArray->(Bool->Prop)->Prop
def Hg(Qu:Zj):Js:=fun s prefix_ K=>Qu s prefix_ fun Qa=>K Qa
def Vc:Js:=Hg Zw
abbrev Jj:Type:=ByteArray->ByteArray->(Bool->Prop)->Prop
def Vd:Jj:=fun s suffix K=>Cnd ((↑suffix.size:Int)<=(↑s.size:Int)) (InI ((↑s.size:Int) - (↑suffix.size:Int))/\((0:Int)<=(↑s.size:Int) - (↑suffix.size:Int)/\(↑s.size:Int) - (↑suffix.size:Int)<=(↑s.size:Int)/\(↑s.size:Int)<=(↑s.size:Int))/\K (decide (s.extract ((↑s.size:Int) - (↑suffix.size:Int)).toNat (↑s.size:Int).toNat=suffix))) (K false)
abbrev Jt:Type:=ByteArray->ByteArray->(Bool->Prop)->Prop
def Hh(Jm:Jj):Jt:=fun s suffix K=>Jm s suffix fun Qa=>K Qa
def Ve:Jt:=Hh Vd
abbrev H6:Type:=ByteArray->ByteArray->(Bool->Prop)->Prop
def H7(s:ByteArray)(substr:ByteArray)(K:Bool->Prop):Prop:=s.size<4294967281/\K (Go.Lib.contains s.data.toList substr.data.toList)
abbrev q09:Type:=Val->(Bool->Prop)->Prop
def q1a:q09:=fun v K=>Jn1 (fun Qa=>Cnd (Qa=true) (Cnd (v.3=B8 []) (Fits v.4->K (decide ((↑v.4.length:Int)=0))) (K false)) (Jn1 (fun Qm=>Cnd (Qm=true) (Cnd (v.2=0) (Fits v.4->K (decide ((↑v.4.length:Int)=0))) (K false)) (Cnd (v.2=0) (K (decide (v.3=B8 []))) (K false))) fun v0g=>Cnd (v.1=3) (v0g (decide (v.1=3))) (v0g (decide (v.1=4))))) fun z0g=>Cnd (v.1=1) (z0g (decide (v.1=1))) (z0g (decide (v.1=2)))
abbrev Ua:Type:=ByteArray->(Bool->Prop)->Prop
def Wc(s:ByteArray)(K:Bool->Prop):Prop:=s.size<=(9223372036854775807:Nat)/\K (Go.Lib.validD s.data.toList)
abbrev q0c:Type:=ByteArray->(Bool->Prop)->Prop
def q67(Jd:Ua):q0c:=fun s K=>Cnd ((200:Int)<(↑s.size:Int)) (K false) (Jd s fun Qa=>Cnd (Qa=true) (Lp1 (fun (Qm:ByteArray×Nat) q6e=>Cnd (Qm.2<Qm.1.size) (Cnd ((↑(Go.Utf8.decode Qm.1 Qm.2).1:Int)<(32:Int)) (K false) (Cnd ((↑(Go.Utf8.decode Qm.1 Qm.2).1:Int)=(127:Int)) (K false) (q6e (Qm.1,Qm.2+(Go.Utf8.decode Qm.1 Qm.2).2)))) (K true)) (s,(0:Nat))) (K false))
def q3h:q0c:=q67 Wc
abbrev q2j:Type:=ByteArray->ByteArray->(List (ByteArray)->Prop)->Prop
def q2k(s:ByteArray)(sep:ByteArray)(K:List (ByteArray)->Prop):Prop:=sep.size=1/\s.size<4294967281/\K (Ho s sep)
abbrev Zx:Type:=ByteArray->ByteArray->(ByteArray->Bool->Prop)->Prop
def Vf(Qu:Zj):Zx:=fun s prefix_ K=>Qu s prefix_ fun Qa=>Cnd (Qa=true) (((0:Int)<=(↑prefix_.size:Int)/\(↑prefix_.size:Int)<=(↑s.size:Int)/\(↑s.size:Int)<=(↑s.size:Int))/\K (s.extract (↑prefix_.size:Int).toNat (↑s.size:Int).toNat) true) (K s false)
def Vg:Zx:=Vf Zw
abbrev Ju:Type:=ByteArray->ByteArray->(ByteArray->Bool->Prop)->Prop
def Hi(Jn:Zx):Ju:=fun s prefix_ K=>Jn s prefix_ fun Qa Gh=>K Qa Gh
def Vh:Ju:=Hi Vg
abbrev q31:Type:=ByteArray->(Int->Bool->Prop)->Prop
def Bv(s:ByteArray)(K:Int->Bool->Prop):Prop:=s.size<=281474976710656/\w5l s K
abbrev Wd:Type:=ByteArray->(Int->Int->Prop)->Prop
def H8(Vn:Ju)(Gw:q31):Wd:=fun s K=>Vn s (B8 [45]) fun Qa Gh=>Cnd (Qa=B8 []) (K (0:Int) (1:Int)) (((0:Int)<=(0:Int)/\(0:Int)<(↑Qa.size:Int))/\ ∀b1,Qa[Int.toNat (0:Int)]? =some b1->Cnd ((↑b1.toNat:Int)=48) (Cnd ((1:Int)<(↑Qa.size:Int)) (K (0:Int) (1:Int)) (Cnd (Gh=true) (K (0:Int) (1:Int)) (Lp1 (fun (Qd:ByteArray×Nat) q80=>Cnd (Qd.2<Qd.1.size) (Cnd ((↑(Go.Utf8.decode Qd.1 Qd.2).1:Int)<(48:Int)) (K (0:Int) (1:Int)) (Cnd ((57:Int)<(↑(Go.Utf8.decode Qd.1 Qd.2).1:Int)) (K (0:Int) (1:Int)) (q80 (Qd.1,Qd.2+(Go.Utf8.decode Qd.1 Qd.2).2)))) (Gw s fun Qc Ui=>Cnd ((match (Qc,Ui,()).2.1 with|true=>false|false=>true)=true) (K (0:Int) (3:Int)) (Cnd (Qc<(-1099511627776:Int)) (K (0:Int) (3:Int)) (Cnd ((1099511627776:Int)<Qc) (K (0:Int) (3:Int)) (K Qc (0:Int)))))) (Qa,(0:Nat))))) (Lp1 (fun (Qd:ByteArray×Nat) q80=>Cnd (Qd.2<Qd.1.size) (Cnd ((↑(Go.Utf8.decode Qd.1 Qd.2).1:Int)<(48:Int)) (K (0:Int) (1:Int)) (Cnd ((57:Int)<(↑(Go.Utf8.decode Qd.1 Qd.2).1:Int)) (K (0:Int) (1:Int)) (q80 (Qd.1,Qd.2+(Go.Utf8.decode Qd.1 Qd.2).2)))) (Gw s fun Qc Ui=>Cnd ((match (Qc,Ui,()).2.1 with|true=>false|false=>true)=true) (K (0:Int) (3:Int)) (Cnd (Qc<(-1099511627776:Int)) (K (0:Int) (3:Int)) (Cnd ((1099511627776:Int)<Qc) (K (0:Int) (3:Int)) (K Qc (0:Int)))))) (Qa,(0:Nat))))
def Ub:Wd:=H8 Vh Bv
abbrev Vi:Type:=ByteArray->(A3->Bool->Prop)->Prop
def q5c(R3:q2j)(Ue:Wd):Vi:=fun s K=>R3 s (B8 [46]) fun Qa=>Fits Qa->Cnd ((↑Qa.length:Int)=3) (Fits Qa->LpH (fun (Qd:Int×Int×Int×Int×Int×Int×Int×Unit) q80=>CAt Qa Qd.1 (fun y4=>Ue y4 fun Jc q8z=>Cnd (q8z=0) (Cnd (Jc<0) (K ((0:Int),(0:Int),(0:Int)) false) (Cnd ((999999:Int)<Jc) (K ((0:Int),(0:Int),(0:Int)) false) (((0:Int)<=Qd.1/\Qd.1<(↑(3:Nat):Int))/\((True/\(Qd.1=(↑(nat_lit 0):Int)->InI (Qd.1+1)/\q80 (Qd.1+1,Jc,Qd.2.2.1,Qd.2.2.2.1,Qd.2.2.2.2.1,Qd.2.2.2.2.2.1,Qd.2.2.2.2.2.2.1,())))/\(Qd.1=(↑(nat_lit 1):Int)->InI (Qd.1+1)/\q80 (Qd.1+1,Qd.2.1,Jc,Qd.2.2.2.1,Qd.2.2.2.2.1,Qd.2.2.2.2.2.1,Qd.2.2.2.2.2.2.1,())))/\(Qd.1=(↑(nat_lit 2):Int)->InI (Qd.1+1)/\q80 (Qd.1+1,Qd.2.1,Qd.2.2.1,Jc,Qd.2.2.2.2.1,Qd.2.2.2.2.2.1,Qd.2.2.2.2.2.2.1,()))))) (K ((0:Int),(0:Int),(0:Int)) false)) (K (Qd.2.1,Qd.2.2.1,Qd.2.2.2.1) true)) ((0:Int),(0:Int),(0:Int),(0:Int),(0:Int),(0:Int),(0:Int),())) (K ((0:Int),(0:Int),(0:Int)) false)
def H9:Vi:=q5c q2k Ub
abbrev Ra:Type:=Val->(Int->Prop)->Prop
def q5d(q1v:q09)(q0f:q0c)(Z8:Vi):Ra:=fun v K=>Cnd (v.1<1) (K (7:Int)) (Cnd ((5:Int)<v.1) (K (7:Int)) (q1v v fun Qa=>Cnd (Qa=true) (Cnd (v.1=1) (Cnd (v.2=0) (K (0:Int)) (Cnd (v.2=1) (K (0:Int)) (K (3:Int)))) (Cnd (v.1=2) (Cnd (v.2<(-1099511627776:Int)) (K (3:Int)) (Cnd ((1099511627776:Int)<v.2) (K (3:Int)) (K (0:Int)))) (Cnd (v.1=3) (q0f v.3 fun Qm=>Cnd (Qm=true) (K (0:Int)) (K (2:Int))) (Cnd (v.1=4) (Z8 v.3 fun (_:Int×Int×Int) q1s=>Cnd (q1s=true) (K (0:Int)) (K (1:Int))) (Cnd (v.1=5) (Fits v.4->Cnd ((20:Int)<(↑v.4.length:Int)) (K (5:Int)) (Fits v.4->Lp1 (fun Qd q80=>CAt v.4 Qd (fun y4=>q0f y4 fun Jc=>Cnd (Jc=true) (InI (Qd+1)/\q80 (Qd+1)) (K (2:Int))) (Fits v.4->Lp1 (fun Qt j2l=>Cnd (Qt<(↑v.4.length:Int)) (Cnd ((0:Int)<Qt) (InI (Qt - 1)/\((0:Int)<=Qt - 1/\Qt - 1<(↑v.4.length:Int))/\ ∀y6,v.4[(Qt - 1).toNat]? =some y6->At v.4 Qt fun y8=>Cnd (Lk.blt y6 y8) (InI (Qt+1)/\j2l (Qt+1)) (K (9:Int))) (InI (Qt+1)/\j2l (Qt+1))) (K (0:Int))) (0:Int))) (0:Int))) (K (0:Int))))))) (K (15:Int))))
def q1b:Ra:=q5d q1a q3h H9
abbrev Un:Type:=Val->Val->(Int->Int->Prop)->Prop
def q2l(R4:Ra)(Z8:Vi):Un:=fun a b K=>R4 a fun Qa=>Cnd (Qa=0) (R4 b fun Qm=>Cnd (Qm=0) (Cnd (a.1=b.1) (Cnd (a.1=1) (K (0:Int) (8:Int)) (Cnd (a.1=5) (K (0:Int) (8:Int)) (Cnd (a.1=2) (Cnd (a.2=a.2) (Cnd (b.2=b.2) (Cnd (a.2<b.2) (K (-1:Int) (0:Int)) (Cnd (b.2<a.2) (K (1:Int) (0:Int)) (K (0:Int) (0:Int)))) (K (1:Int) (0:Int))) (Cnd (b.2=b.2) (K (-1:Int) (0:Int)) (K (0:Int) (0:Int)))) (Cnd (a.1=3) (Cnd (a.3=a.3) (Cnd (b.3=b.3) (Cnd (Lk.blt a.3 b.3) (K (-1:Int) (0:Int)) (Cnd (Lk.blt b.3 a.3) (K (1:Int) (0:Int)) (K (0:Int) (0:Int)))) (K (1:Int) (0:Int))) (Cnd (b.3=b.3) (K (-1:Int) (0:Int)) (K (0:Int) (0:Int)))) (Z8 a.3 fun (Qh:Int×Int×Int) _=>Z8 b.3 fun (Qd:Int×Int×Int) _=>Two (([Qh.1,Qh.2.1,Qh.2.2].length<=(9223372036854775807:Nat)->Lp1 (fun Qt j2l=>Cnd (Qt<(↑[Qh.1,Qh.2.1,Qh.2.2].length:Int)) (((0:Int)<=Qt/\Qt<(↑[Qh.1,Qh.2.1,Qh.2.2].length:Int))/\ ∀y6,[Qh.1,Qh.2.1,Qh.2.2][Qt.toNat]? =some y6->[Qd.1,Qd.2.1,Qd.2.2].length<=(9223372036854775807:Nat)->Cnd ((↑[Qd.1,Qd.2.1,Qd.2.2].length:Int)<=Qt) (K (1:Int) (0:Int)) (((0:Int)<=Qt/\Qt<(↑[Qd.1,Qd.2.1,Qd.2.2].length:Int))/\ ∀y9,[Qd.1,Qd.2.1,Qd.2.2][Qt.toNat]? =some y9->Cnd (y6=y6) (Cnd (y9=y9) (Cnd (y6<y9) (Cnd ((-1:Int)=(0:Int)) (InI (Qt+1)/\j2l (Qt+1)) (K (-1:Int) (0:Int))) (Cnd (y9<y6) (Cnd ((1:Int)=(0:Int)) (InI (Qt+1)/\j2l (Qt+1)) (K (1:Int) (0:Int))) (Cnd ((0:Int)=(0:Int)) (InI (Qt+1)/\j2l (Qt+1)) (K (0:Int) (0:Int))))) (Cnd ((1:Int)=(0:Int)) (InI (Qt+1)/\j2l (Qt+1)) (K (1:Int) (0:Int)))) (Cnd (y9=y9) (Cnd ((-1:Int)=(0:Int)) (InI (Qt+1)/\j2l (Qt+1)) (K (-1:Int) (0:Int))) (Cnd ((0:Int)=(0:Int)) (InI (Qt+1)/\j2l (Qt+1)) (K (0:Int) (0:Int)))))) ([Qh.1,Qh.2.1,Qh.2.2].length<=(9223372036854775807:Nat)->[Qd.1,Qd.2.1,Qd.2.2].length<=(9223372036854775807:Nat)->Cnd ((↑[Qh.1,Qh.2.1,Qh.2.2].length:Int)<(↑[Qd.1,Qd.2.1,Qd.2.2].length:Int)) (K (-1:Int) (0:Int)) (K (0:Int) (0:Int)))) (0:Int)))))))) (K (0:Int) (8:Int))) (K (0:Int) Qm)) (K (0:Int) Qa)
def Uo:Un:=q2l q1b H9
abbrev Rb:Type:=Subj->Ex->(Bool->Prop)->Prop
def q5e(Ha:Vv)(Jl:U1)(U8:H4)(Vo:Js)(Vp:Jt)(Uf:H6)(Uw:Un):Rb:=fun s e K=>Ha (Subj.mk s.1) e.2 e.3 fun Qa Gh=>Cnd (Gh=true) (Jl e.1 fun Qm=>Cnd (Qm=true) (Cnd (e.1=6) (K true) (Cnd (e.1=8) (Fits e.4->Lp1 (fun Qd q80=>CAt e.4 Qd (fun y4=>U8 Qa y4 fun Jc=>Cnd (Jc=true) (K (decide ((0:Int)<=Qd))) (InI (Qd+1)/\q80 (Qd+1))) (K (decide ((0:Int)<=(-1:Int))))) (0:Int)) (Fits e.4->Cnd ((↑e.4.length:Int)=0) (K false) (((0:Int)<=(0:Int)/\(0:Int)<(↑e.4.length:Int))/\ ∀y3,e.4[Int.toNat (0:Int)]? =some y3->Cnd (Qa.1=3) (Cnd (e.1=7) (U8 Qa y3 fun Qt=>K Qt) (Cnd (e.1=9) (Cnd (y3.1=3) (Vo Qa.3 y3.3 fun Qt=>K Qt) (K false)) (Cnd (e.1=10) (Cnd (y3.1=3) (Vp Qa.3 y3.3 fun Qt=>K Qt) (K false)) (Cnd (e.1=11) (Cnd (y3.1=3) (Uf Qa.3 y3.3 fun Qt=>Cnd (Qt=true) (K true) (Cnd (y3.1=3) (Cnd (Qa.1=5) (Fits Qa.4->Lp1 (fun Hr j9k=>CAt Qa.4 Hr (fun y8=>Cnd (y3.3=y8) (K (decide ((0:Int)<=Hr))) (InI (Hr+1)/\j9k (Hr+1))) (K (decide ((0:Int)<=(-1:Int))))) (0:Int)) (K false)) (K false))) (Cnd (y3.1=3) (Cnd (Qa.1=5) (Fits Qa.4->Lp1 (fun Jc v2d=>CAt Qa.4 Jc (fun y7=>Cnd (y3.3=y7) (K (decide ((0:Int)<=Jc))) (InI (Jc+1)/\v2d (Jc+1))) (K (decide ((0:Int)<=(-1:Int))))) (0:Int)) (K false)) (K false))) (Uw Qa y3 fun Qt q9i=>Cnd (q9i=0) (Cnd (e.1=12) (K (decide (Qt<0))) (Cnd (e.1=13) (K (decide (Qt<=0))) (Cnd (e.1=14) (K (decide ((0:Int)<Qt))) (K (decide ((0:Int)<=Qt)))))) (K false)))))) (Cnd (e.1=7) (U8 Qa y3 fun Qt=>K Qt) (Cnd (e.1=9) (K false) (Cnd (e.1=10) (K false) (Cnd (e.1=11) (Cnd (y3.1=3) (Cnd (Qa.1=5) (Fits Qa.4->Lp1 (fun Jc v2d=>CAt Qa.4 Jc (fun y7=>Cnd (y3.3=y7) (K (decide ((0:Int)<=Jc))) (InI (Jc+1)/\v2d (Jc+1))) (K (decide ((0:Int)<=(-1:Int))))) (0:Int)) (K false)) (K false)) (Uw Qa y3 fun Qt q9i=>Cnd (q9i=0) (Cnd (e.1=12) (K (decide (Qt<0))) (Cnd (e.1=13) (K (decide (Qt<=0))) (Cnd (e.1=14) (K (decide ((0:Int)<Qt))) (K (decide ((0:Int)<=Qt)))))) (K false)))))))))) (K false)) (K false)
def U2:Rb:=q5e G0 Vb H5 Vc Ve H7 Uo
abbrev Z6:Type:=Subj->List (ByteArray)->Ex->(Bool->Prop)->Prop
def q5f(q1w:Rb)(X:Z6):Z6:=fun s in_ e K=>Cnd (e.1=1) (K true) (Cnd (e.1=2) (Fits e.5->Lp1 (fun Qm q6e=>CAt e.5 Qm (fun y2=>X (Subj.mk s.1) in_ (Ex.mk y2.1 y2.2 y2.3 y2.4 y2.5) fun Qc=>Cnd (Qc=true) (InI (Qm+1)/\q6e (Qm+1)) (K (match decide ((0:Int)<=Qm) with|true=>false|false=>true))) (K true)) (0:Int)) (Cnd (e.1=3) (Fits e.5->Lp1 (fun Qm q6e=>CAt e.5 Qm (fun y2=>X (Subj.mk s.1) in_ (Ex.mk y2.1 y2.2 y2.3 y2.4 y2.5) fun Qc=>Cnd (Qc=true) (K (decide ((0:Int)<=Qm))) (InI (Qm+1)/\q6e (Qm+1))) (K (decide ((0:Int)<=(-1:Int))))) (0:Int)) (Cnd (e.1=4) (Fits e.5->Cnd ((0:Int)<(↑e.5.length:Int)) (((0:Int)<=(0:Int)/\(0:Int)<(↑e.5.length:Int))/\ ∀y1,e.5[Int.toNat (0:Int)]? =some y1->X (Subj.mk s.1) in_ (Ex.mk y1.1 y1.2 y1.3 y1.4 y1.5) fun Qd=>K (match decide ((Qd,()).1=true) with|true=>false|false=>true)) (K false)) (Cnd (e.1=5) (Fits in_->Lp1 (fun Qm q6e=>CAt in_ Qm (fun y2=>Cnd (e.3=y2) (K (decide ((0:Int)<=Qm))) (InI (Qm+1)/\q6e (Qm+1))) (K (decide ((0:Int)<=(-1:Int))))) (0:Int)) (q1w (Subj.mk s.1) (Ex.mk e.1 e.2 e.3 e.4 e.5) fun Qa=>K Qa)))))
def Rc:Z6:=fun s in_ e K=> ∀X:Z6,(∀s in_ e K,q5f U2 X s in_ e K->X s in_ e K)->X s in_ e K
abbrev We:Type:=Seg->Subj->List (ByteArray)->(Bool->Prop)->Prop
def Rd(Q4:Z5)(Zp:Z6):We:=fun g s in_ K=>Q4 (Subj.mk s.1) g.2 fun Qa Gh=>Cnd (Gh=true) (Fits g.4->Lp1 (fun Qh q7u=>CAt g.4 Qh (fun y3=>Cnd (Qa.2=y3) (Cnd ((0:Int)<=Qh) (K false) (Fits g.3->Lp1 (fun Jc v2d=>CAt g.3 Jc (fun y7=>Cnd (Qa.2=y7) (Cnd ((0:Int)<=Jc) (K true) (Cnd (g.5.1=0) (K false) (Zp (Subj.mk s.1) in_ (Ex.mk g.5.1 g.5.2 g.5.3 g.5.4 g.5.5) fun Qp=>K Qp))) (InI (Jc+1)/\v2d (Jc+1))) (Cnd ((0:Int)<=(-1:Int)) (K true) (Cnd (g.5.1=0) (K false) (Zp (Subj.mk s.1) in_ (Ex.mk g.5.1 g.5.2 g.5.3 g.5.4 g.5.5) fun Hr=>K Hr)))) (0:Int))) (InI (Qh+1)/\q7u (Qh+1))) (Cnd ((0:Int)<=(-1:Int)) (K false) (Fits g.3->Lp1 (fun Qc j6j=>CAt g.3 Qc (fun y5=>Cnd (Qa.2=y5) (Cnd ((0:Int)<=Qc) (K true) (Cnd (g.5.1=0) (K false) (Zp (Subj.mk s.1) in_ (Ex.mk g.5.1 g.5.2 g.5.3 g.5.4 g.5.5) fun Hr=>K Hr))) (InI (Qc+1)/\j6j (Qc+1))) (Cnd ((0:Int)<=(-1:Int)) (K true) (Cnd (g.5.1=0) (K false) (Zp (Subj.mk s.1) in_ (Ex.mk g.5.1 g.5.2 g.5.3 g.5.4 g.5.5) fun Qt=>K Qt)))) (0:Int)))) (0:Int)) (K false)
def Uc:We:=Rd V3 Rc
abbrev Wv:Type:=List (Seg)->Subj->(List (ByteArray)->Prop)->Prop
def Bc(R5:Um)(Ug:We)(Ql:Q9):Wv:=fun l s K=>R5 l fun Qa Gh=>Cnd (Gh=0) (Fits l->Lp2 (fun Qh q7u j76=>CAt l Qh (fun y3=>InI (Qh+1)/\j76 (Qh+1) (put q7u y3.1 (Seg.mk y3.1 y3.2 y3.3 y3.4 (Ex.mk y3.5.1 y3.5.2 y3.5.3 y3.5.4 y3.5.5)))) (Fits Qa->Lp2 (fun Qc Ui j75=>CAt Qa Ui (fun y5=>Ug (Seg.mk ((q7u y5).getD (Seg.mk (B8 []) (B8 []) [] [] (Ex.mk (0:Int) (B8 []) (B8 []) [] []))).1 ((q7u y5).getD (Seg.mk (B8 []) (B8 []) [] [] (Ex.mk (0:Int) (B8 []) (B8 []) [] []))).2 ((q7u y5).getD (Seg.mk (B8 []) (B8 []) [] [] (Ex.mk (0:Int) (B8 []) (B8 []) [] []))).3 ((q7u y5).getD (Seg.mk (B8 []) (B8 []) [] [] (Ex.mk (0:Int) (B8 []) (B8 []) [] []))).4 (Ex.mk ((q7u y5).getD (Seg.mk (B8 []) (B8 []) [] [] (Ex.mk (0:Int) (B8 []) (B8 []) [] []))).5.1 ((q7u y5).getD (Seg.mk (B8 []) (B8 []) [] [] (Ex.mk (0:Int) (B8 []) (B8 []) [] []))).5.2 ((q7u y5).getD (Seg.mk (B8 []) (B8 []) [] [] (Ex.mk (0:Int) (B8 []) (B8 []) [] []))).5.3 ((q7u y5).getD (Seg.mk (B8 []) (B8 []) [] [] (Ex.mk (0:Int) (B8 []) (B8 []) [] []))).5.4 ((q7u y5).getD (Seg.mk (B8 []) (B8 []) [] [] (Ex.mk (0:Int) (B8 []) (B8 []) [] []))).5.5)) (Subj.mk s.1) Qc fun Hr=>Cnd (Hr=true) (Sml (Qc++[y5]).length/\InI (Ui+1)/\j75 (Qc++[y5]) (Ui+1)) (InI (Ui+1)/\j75 Qc (Ui+1))) (Ql Qc fun Qt=>K Qt)) [] (0:Int))) (0:Int) fun _=>none) (K [])
def U3:Wv:=Bc H3 Uc Zv
abbrev Ww:Type:=Envt->Subj->ByteArray->(Bool->Prop)->Prop
def Bd(U9:Wv)(Zp:Z6):Ww:=fun v s experiment K=>Fits v.6->Lp1 (fun Qm q6e=>CAt v.6 Qm (fun y2=>Cnd (y2.1=experiment) (U9 v.3 (Subj.mk s.1) fun Qc=>Zp (Subj.mk s.1) Qc (Ex.mk y2.8.1 y2.8.2 y2.8.3 y2.8.4 y2.8.5) fun Qt=>K Qt) (InI (Qm+1)/\q6e (Qm+1))) (K false)) (0:Int)
def U4:Ww:=Bd U3 Rc
abbrev U5:Type:=List (Rng)->Int->(Int->Prop)->Prop
def Re:U5:=fun l bucket K=>Fits l->Lp1 (fun Qm q6e=>CAt l Qm (fun y2=>Cnd (y2.1<=bucket) (Cnd (bucket<y2.2) (K y2.3) (InI (Qm+1)/\q6e (Qm+1))) (InI (Qm+1)/\q6e (Qm+1))) (K (0:Int))) (0:Int)
abbrev Gn:Type:=Envt->Subj->List (Frc)->ByteArray->(Asg->Int->Prop)->Prop
def q32(Q4:Z5)(R6:H0)(Qs:Jr)(Zq:U5)(Ga:Ww)(q1x:H2)(q1y:q06):Gn:=fun v s forced key K=>Jn1 (fun Qa=>Cnd (Qa<0) (K (Asg.mk (B8 []) (B8 []) (0:Int) (0:Int) false) (11:Int)) (At v.5 Qa fun y1=>Q4 (Subj.mk s.1) y1.2 fun Qd G8=>Jn1 (fun Qc=>R6 forced key fun Qt q9i=>Jn1 (fun Jc=>Cnd (Jc=true) (Cnd (Qt.2=B8 []) (K (Asg.mk key (B8 []) Qc (0:Int) false) (0:Int)) (K (Asg.mk key Qt.2 Qc Qt.3 false) (0:Int))) (Jn1 (fun Hr=>Cnd (Hr=true) (K (Asg.mk key (B8 []) Qc (0:Int) true) (0:Int)) (Cnd (G8=true) (Fits v.6->Lp3 (fun Qp v39 v4a v4g=>CAt v.6 Qp (fun y10=>Jn1 (fun q81=>Jn1 (fun w32=>Cnd (w32=true) (Qs y10.4 Qd.2 fun z15=>Zq y10.7 z15 fun v0b=>K (Asg.mk key y10.1 Qc v0b false) (0:Int)) (InI (Qp+1)/\v4g (Qp+1) v39 v4a)) fun w6k=>Cnd (y10.2=key) (Cnd (y10.5=2) (Cnd (q81=true) (Ga (Envt.mk (Sett.mk v.1.1 v.1.2 v.1.3) v.2 v.3 v.4 v.5 v.6) (Subj.mk s.1) y10.1 fun z15=>w6k z15) (w6k false)) (w6k false)) (w6k false)) fun v2e=>Fits y10.6->Lp1 (fun z15 v2f=>CAt y10.6 z15 (fun y15=>Cnd (y15.1<=Qc) (Cnd (Qc<y15.2) (v2e (decide ((0:Int)<=z15))) (InI (z15+1)/\v2f (z15+1))) (InI (z15+1)/\v2f (z15+1))) (v2e (decide ((0:Int)<=(-1:Int))))) (0:Int)) (K (Asg.mk key v39 Qc v4a false) (0:Int))) (0:Int) (B8 []) (0:Int)) (K (Asg.mk key (B8 []) Qc (0:Int) false) (0:Int)))) fun v33=>q1x (Envt.mk (Sett.mk v.1.1 v.1.2 v.1.3) v.2 v.3 v.4 v.5 v.6) (Subj.mk s.1) fun q4i=>Cnd (q4i=true) (v33 true) (Cnd (G8=true) (v33 (decide (Qc<y1.4))) (v33 false)))) fun v0h=>Cnd (q9i=true) (Cnd (Qt.2=B8 []) (v0h true) (q1y (Envt.mk (Sett.mk v.1.1 v.1.2 v.1.3) v.2 v.3 v.4 v.5 v.6) Qt fun Hr=>v0h Hr)) (v0h false)) fun j9l=>Cnd (G8=true) (Qs y1.3 Qd.2 fun Qt=>j9l Qt) (j9l (-1:Int)))) fun z0g=>Fits v.5->Lp1 (fun Qh q7u=>CAt v.5 Qh (fun y3=>Cnd (y3.1=key) (z0g Qh) (InI (Qh+1)/\q7u (Qh+1))) (z0g (-1:Int))) (0:Int)
def Bw:Gn:=q32 V3 H1 Va Re U4 q08 q07
abbrev q0n:Type:=ByteArray->(List (ByteArray)->Prop)->Prop
def q0o(s:ByteArray)(K:List (ByteArray)->Prop):Prop:=s.size<4294967281/\w1s s/\K (W7 s)
abbrev Wx:Type:=ByteArray->(Bool->Prop)->Prop
def z2t(Hb:q0n):Wx:=fun s K=>Cnd ((↑s.size:Int)<1) (K false) (Cnd ((32:Int)<(↑s.size:Int)) (K false) (Lp1 (fun (Qa:ByteArray×Nat) Ba=>Cnd (Qa.2<Qa.1.size) (Cnd ((97:Int)<=(↑(Go.Utf8.decode Qa.1 Qa.2).1:Int)) (Cnd ((↑(Go.Utf8.decode Qa.1 Qa.2).1:Int)<=(122:Int)) (Ba (Qa.1,Qa.2+(Go.Utf8.decode Qa.1 Qa.2).2)) (Cnd ((↑Qa.2:Int)=(0:Int)) (K false) (Cnd ((↑(Go.Utf8.decode Qa.1 Qa.2).1:Int)<(48:Int)) (Cnd ((↑(Go.Utf8.decode Qa.1 Qa.2).1:Int)=(45:Int)) (Ba (Qa.1,Qa.2+(Go.Utf8.decode Qa.1 Qa.2).2)) (Cnd ((↑(Go.Utf8.decode Qa.1 Qa.2).1:Int)=(95:Int)) (Ba (Qa.1,Qa.2+(Go.Utf8.decode Qa.1 Qa.2).2)) (K false))) (Cnd ((57:Int)<(↑(Go.Utf8.decode Qa.1 Qa.2).1:Int)) (Cnd ((↑(Go.Utf8.decode Qa.1 Qa.2).1:Int)=(45:Int)) (Ba (Qa.1,Qa.2+(Go.Utf8.decode Qa.1 Qa.2).2)) (Cnd ((↑(Go.Utf8.decode Qa.1 Qa.2).1:Int)=(95:Int)) (Ba (Qa.1,Qa.2+(Go.Utf8.decode Qa.1 Qa.2).2)) (K false))) (Ba (Qa.1,Qa.2+(Go.Utf8.decode Qa.1 Qa.2).2)))))) (Cnd ((↑Qa.2:Int)=(0:Int)) (K false) (Cnd ((↑(Go.Utf8.decode Qa.1 Qa.2).1:Int)<(48:Int)) (Cnd ((↑(Go.Utf8.decode Qa.1 Qa.2).1:Int)=(45:Int)) (Ba (Qa.1,Qa.2+(Go.Utf8.decode Qa.1 Qa.2).2)) (Cnd ((↑(Go.Utf8.decode Qa.1 Qa.2).1:Int)=(95:Int)) (Ba (Qa.1,Qa.2+(Go.Utf8.decode Qa.1 Qa.2).2)) (K false))) (Cnd ((57:Int)<(↑(Go.Utf8.decode Qa.1 Qa.2).1:Int)) (Cnd ((↑(Go.Utf8.decode Qa.1 Qa.2).1:Int)=(45:Int)) (Ba (Qa.1,Qa.2+(Go.Utf8.decode Qa.1 Qa.2).2)) (Cnd ((↑(Go.Utf8.decode Qa.1 Qa.2).1:Int)=(95:Int)) (Ba (Qa.1,Qa.2+(Go.Utf8.decode Qa.1 Qa.2).2)) (K false))) (Ba (Qa.1,Qa.2+(Go.Utf8.decode Qa.1 Qa.2).2)))))) (Hb (B8 [97,110,100,32,97,114,109,115,32,97,116,116,114,105,98,117,116,101,32,98,111,111,108,32,99,108,97,105,109,115,32,99,111,110,116,97,105,110,115,32,99,111,111,108,32,99,111,111,108,105,110,103,32,100,101,102,97,117,108,116,32,100,114,97,102,116,32,101,110,100,115,32,101,120,99,108,117,100,101,32,101,120,105,115,116,115,32,101,120,112,101,114,105,109,101,110,116,32,102,97,108,115,101,32,102,108,97,103,32,104,111,108,100,111,117,116,32,105,110,32,105,110,99,108,117,100,101,32,105,115,32,108,97,121,101,114,32,108,105,115,116,32,109,101,109,98,101,114,32,110,101,101,100,115,32,110,111,116,32,110,117,109,98,101,114,32,111,102,102,32,111,110,32,111,114,32,114,117,108,101,32,114,117,110,110,105,110,103,32,115,97,108,116,32,115,101,103,109,101,110,116,32,115,101,114,118,101,32,115,101,116,116,105,110,103,115,32,115,112,108,105,116,32,115,116,97,114,116,115,32,115,116,111,112,112,101,100,32,116,97,114,103,101,116,32,116,101,120,116,32,116,111,32,116,114,117,101,32,117,110,116,105,108,32,118,97,114,105,97,116,105,111,110,115,32,118,101,114,115,105,111,110,32,119,104,101,110]) fun Qm=>Fits Qm->Lp1 (fun Qd q80=>CAt Qm Qd (fun y4=>Cnd (y4=s) (K false) (InI (Qd+1)/\q80 (Qd+1))) (K true)) (0:Int))) (s,(0:Nat))))
def Be:Wx:=z2t q0o
abbrev Rf:Type:=Reg->Slt->(Bool->Prop)->Prop
def q5g(Qy:Wx):Rf:=fun r s K=>Qy s.1 fun Qa=>Cnd (Qa=true) (Qy s.2 fun Qm=>Cnd (Qm=true) (Qy s.3 fun Qh=>Cnd (Qh=true) (Cnd (s.4<1) (K false) (Cnd ((8:Int)<s.4) (K false) (Cnd (s.5<0) (K false) (Cnd (r.1<s.5) (K false) (Cnd (s.7=0) (K (decide (s.6=0))) (Jn1 (fun Qd=>Cnd (Qd=true) (Cnd (s.5<=s.6) (K (decide (s.6<=r.1))) (K false)) (K false)) fun v2g=>Cnd (s.7=1) (v2g (decide (s.7=1))) (v2g (decide (s.7=2))))))))) (K false)) (K false)) (K false)
def q1c:Rf:=q5g Be
abbrev Zu:Type:=(ByteArray->Option (ByteArray))->ByteArray->(ByteArray->(ByteArray->Option (ByteArray))->Prop)->Prop
def Ja:Zu:=fun f id K=>Lp1 (fun Qa Ba=>Cnd ((f Qa).isSome=true) (Ba ((f Qa).getD (B8 []))) (K Qa f)) id
abbrev Jb:Type:=(ByteArray->Option (ByteArray))->ByteArray->ByteArray->(Bool->(ByteArray->Option (ByteArray))->Prop)->Prop
def Up(Qv:Zu):Jb:=fun f a b K=>Qv f a fun Qa Ba=>Qv Ba b fun Qm q6e=>Cnd (Qa=Qm) (K false q6e) (Cnd (Lk.blt Qa Qm) (Cnd (Lk.blt Qm Qa) (K true (put q6e Qm Qm)) (K true (put q6e Qm Qa))) (Cnd (Lk.blt Qm Qa) (K true (put q6e Qa Qm)) (K true (put q6e Qa Qa))))
def Wf:Jb:=Up Ja
abbrev Rg:Type:=List (Lnk)->((ByteArray->Option (ByteArray))->Prop)->Prop
def q5h(Wj:Jb):Rg:=fun l K=>Fits l->Lp2 (fun Qm q6e w31=>CAt l Qm (fun y2=>Wj q6e y2.1 y2.2 fun _ j6j=>InI (Qm+1)/\w31 (Qm+1) j6j) (K q6e)) (0:Int) fun _=>none
def q1d:Rg:=q5h Wf
abbrev Zi:Type:=List (Lnk)->ByteArray->(ByteArray->Prop)->Prop
def q2m(q1z:Rg)(Qv:Zu):Zi:=fun l id K=>q1z l fun z0g=>Qv z0g id fun Qm _=>K Qm
def Jv:Zi:=q2m q1d Ja
abbrev Z7:Type:=Reg->(Bool->Prop)->Prop
def q33(Qy:Wx)(q10:Rf)(Qi:Zi):Z7:=fun r K=>Cnd (r.1<0) (K false) (Cnd ((1099511627776:Int)<r.1) (K false) (Fits r.2->Cnd ((64:Int)<(↑r.2.length:Int)) (K false) (Fits r.3->Cnd ((128:Int)<(↑r.3.length:Int)) (K false) (Fits r.2->Lp2 (fun Qd G8 z89=>CAt r.2 G8 (fun y4=>Qy y4.1 fun Jc=>Cnd (Jc=true) (Qy y4.2 fun Hr=>Cnd (Hr=true) (Cnd (y4.1=y4.2) (K false) (Cnd (y4.3<Qd) (K false) (Cnd (r.1<y4.3) (K false) (InI (G8+1)/\z89 y4.3 (G8+1))))) (K false)) (K false)) (Fits r.3->Lp2 (fun Qt q9i v2c=>CAt r.3 q9i (fun y6=>q10 r y6 fun q4i=>Cnd (q4i=true) (Cnd (y6.5<Qt) (K false) (InI (q9i+1)/\v2c y6.5 (q9i+1))) (K false)) (Fits r.3->Lp2 (fun Hr j9k w36=>CAt r.3 Hr (fun y8=>Cnd (y8.7=0) (Qi r.2 y8.1 fun q3b=>Cnd ((j9k (y8.2,q3b)).getD false=true) (K false) (InI (Hr+1)/\w36 (Hr+1) (put j9k (y8.2,q3b) true))) (InI (Hr+1)/\w36 (Hr+1) j9k)) (K true)) (0:Int) fun _=>none)) (0:Int) (0:Int))) (0:Int) (0:Int)))))
def V4:Z7:=q33 Be q1c Jv
abbrev Gq:Type:=Reg->Int->(Int->Prop)->Prop
def q34(Q5:Z7):Gq:=fun r now K=>Q5 r fun Qa=>Cnd (Qa=true) (Cnd (now<r.1) (K (26:Int)) (Cnd ((1099511627776:Int)<now) (K (26:Int)) (K (0:Int)))) (K (25:Int))
def Bx:Gq:=q34 V4
abbrev Za:Type:=List (Lnk)->(List (Lnk)->Prop)->Prop
def Zb:Za:=fun s K=> ∀n0,(n0=true->s=[])->Cnd (n0=true) (K []) (Sml ([]++s).length/\K ([]++s))
abbrev Zc:Type:=List (Slt)->(List (Slt)->Prop)->Prop
def Zd:Zc:=fun s K=> ∀n0,(n0=true->s=[])->Cnd (n0=true) (K []) (Sml ([]++s).length/\K ([]++s))
abbrev Vw:Type:=Reg->ByteArray->ByteArray->(Int->Prop)->Prop
def q0p(Qi:Zi):Vw:=fun r id layer K=>Qi r.2 id fun Qa=>Fits r.3->Lp1 (fun Qh q7u=>CAt r.3 Qh (fun y3=>Cnd (y3.7=0) (Cnd (y3.2=layer) (Qi r.2 y3.1 fun Qt=>Cnd (Qt=Qa) (K Qh) (InI (Qh+1)/\q7u (Qh+1))) (InI (Qh+1)/\q7u (Qh+1))) (InI (Qh+1)/\q7u (Qh+1))) (K (-1:Int))) (0:Int)
def G1:Vw:=q0p Jv
abbrev Uq:Type:=Reg->ByteArray->Asg->Int->Int->(Reg->Slt->Int->Prop)->Prop
def q2n(B3:Gq)(Qy:Wx)(Zf:Za)(Zg:Zc)(Hc:Vw)(Qi:Zi):Uq:=fun r id a cool now K=>B3 r now fun Qa=>Cnd (Qa=0) (Cnd (cool<0) (K (Reg.mk (0:Int) [] []) (Slt.mk (B8 []) (B8 []) (B8 []) (0:Int) (0:Int) (0:Int) (0:Int)) (3:Int)) (Qy id fun Qm=>Cnd (Qm=true) (Qy a.1 fun Qh=>Cnd (Qh=true) (Zf r.2 fun Qd=>Zg r.3 fun Qc=>Hc r id a.1 fun Qt=>Cnd ((0:Int)<=Qt) (At r.3 Qt fun y6=>K (Reg.mk now Qd Qc) y6 (0:Int)) (Cnd (a.5=true) (K (Reg.mk (0:Int) [] []) (Slt.mk (B8 []) (B8 []) (B8 []) (0:Int) (0:Int) (0:Int) (0:Int)) (11:Int)) (Qy a.2 fun Jc=>Cnd (Jc=true) (Cnd (a.4<1) (K (Reg.mk (0:Int) [] []) (Slt.mk (B8 []) (B8 []) (B8 []) (0:Int) (0:Int) (0:Int) (0:Int)) (11:Int)) (Cnd ((8:Int)<a.4) (K (Reg.mk (0:Int) [] []) (Slt.mk (B8 []) (B8 []) (B8 []) (0:Int) (0:Int) (0:Int) (0:Int)) (11:Int)) (Qi r.2 id fun Hr=>Fits r.3->LpH (fun (Qp:Int×ByteArray×ByteArray×ByteArray×Int×Int×Int×Int×Int×List Lnk×List Slt×Unit) (v2n:Int×ByteArray×ByteArray×ByteArray×Int×Int×Int×Int×Int×List Lnk×List Slt×Unit->Prop)=>CAt r.3 Qp.1 (fun y10=>Cnd (y10.2=a.1) (Cnd (y10.7=0) (InI (Qp.1+1)/\v2n (Qp.1+1,Qp.2.1,Qp.2.2.1,Qp.2.2.2.1,Qp.2.2.2.2.1,Qp.2.2.2.2.2.1,Qp.2.2.2.2.2.2.1,Qp.2.2.2.2.2.2.2.1,Qp.2.2.2.2.2.2.2.2.1,Qp.2.2.2.2.2.2.2.2.2.1,Qp.2.2.2.2.2.2.2.2.2.2.1,())) (InI (now - y10.6)/\Cnd (now - y10.6<cool) (Qi r.2 y10.1 fun q81=>Cnd (q81=Hr) (K (Reg.mk (0:Int) [] []) (Slt.mk (B8 []) (B8 []) (B8 []) (0:Int) (0:Int) (0:Int) (0:Int)) (28:Int)) (InI (Qp.1+1)/\v2n (Qp.1+1,Qp.2.1,Qp.2.2.1,Qp.2.2.2.1,Qp.2.2.2.2.1,Qp.2.2.2.2.2.1,Qp.2.2.2.2.2.2.1,Qp.2.2.2.2.2.2.2.1,Qp.2.2.2.2.2.2.2.2.1,Qp.2.2.2.2.2.2.2.2.2.1,Qp.2.2.2.2.2.2.2.2.2.2.1,()))) (InI (Qp.1+1)/\v2n (Qp.1+1,Qp.2.1,Qp.2.2.1,Qp.2.2.2.1,Qp.2.2.2.2.1,Qp.2.2.2.2.2.1,Qp.2.2.2.2.2.2.1,Qp.2.2.2.2.2.2.2.1,Qp.2.2.2.2.2.2.2.2.1,Qp.2.2.2.2.2.2.2.2.2.1,Qp.2.2.2.2.2.2.2.2.2.2.1,())))) (InI (Qp.1+1)/\v2n (Qp.1+1,Qp.2.1,Qp.2.2.1,Qp.2.2.2.1,Qp.2.2.2.2.1,Qp.2.2.2.2.2.1,Qp.2.2.2.2.2.2.1,Qp.2.2.2.2.2.2.2.1,Qp.2.2.2.2.2.2.2.2.1,Qp.2.2.2.2.2.2.2.2.2.1,Qp.2.2.2.2.2.2.2.2.2.2.1,()))) (Fits r.3->Cnd ((128:Int)<=(↑r.3.length:Int)) (K (Reg.mk (0:Int) [] []) (Slt.mk (B8 []) (B8 []) (B8 []) (0:Int) (0:Int) (0:Int) (0:Int)) (19:Int)) (Sml (Qc++[Slt.mk id a.1 a.2 a.4 now (0:Int) (0:Int)]).length/\K (Reg.mk now Qd (Qc++[Slt.mk id a.1 a.2 a.4 now (0:Int) (0:Int)])) (Slt.mk id a.1 a.2 a.4 now (0:Int) (0:Int)) (0:Int)))) ((0:Int),B8 [],B8 [],B8 [],(0:Int),(0:Int),(0:Int),(0:Int),(0:Int),[],[],())))) (K (Reg.mk (0:Int) [] []) (Slt.mk (B8 []) (B8 []) (B8 []) (0:Int) (0:Int) (0:Int) (0:Int)) (11:Int))))) (K (Reg.mk (0:Int) [] []) (Slt.mk (B8 []) (B8 []) (B8 []) (0:Int) (0:Int) (0:Int) (0:Int)) (6:Int))) (K (Reg.mk (0:Int) [] []) (Slt.mk (B8 []) (B8 []) (B8 []) (0:Int) (0:Int) (0:Int) (0:Int)) (6:Int)))) (K (Reg.mk (0:Int) [] []) (Slt.mk (B8 []) (B8 []) (B8 []) (0:Int) (0:Int) (0:Int) (0:Int)) Qa)
def Rh:Uq:=q2n Bx Be Zb Zd G1 Jv
abbrev J4:Type:=List (Lnk)->Int->(List (Lnk)->Prop)->Prop
def Vx:J4:=fun l time K=>Fits l->Lp2 (fun Qm q1s w31=>CAt l q1s (fun y2=>Cnd (y2.3<=time) (Sml (Qm++[y2]).length/\InI (q1s+1)/\w31 (Qm++[y2]) (q1s+1)) (InI (q1s+1)/\w31 Qm (q1s+1))) (K Qm)) [] (0:Int)
abbrev q2o:Type:=Reg->ByteArray->ByteArray->Int->(Slt->Bool->Prop)->Prop
def q9s(Zr:J4)(Qi:Zi):q2o:=fun r id layer time K=>Zr r.2 time fun Qa=>Qi Qa id fun Qm=>Fits r.3->LpH (fun (Qd:Int×ByteArray×ByteArray×ByteArray×Int×Int×Int×Int×Unit) q80=>CAt r.3 Qd.1 (fun y4=>Cnd (y4.2=layer) (Cnd (y4.5<=time) (Cnd (y4.7=0) (Qi Qa y4.1 fun Jc=>Cnd (Jc=Qm) (K y4 true) (InI (Qd.1+1)/\q80 (Qd.1+1,Qd.2.1,Qd.2.2.1,Qd.2.2.2.1,Qd.2.2.2.2.1,Qd.2.2.2.2.2.1,Qd.2.2.2.2.2.2.1,Qd.2.2.2.2.2.2.2.1,()))) (Cnd (time<y4.6) (Qi Qa y4.1 fun Jc=>Cnd (Jc=Qm) (K y4 true) (InI (Qd.1+1)/\q80 (Qd.1+1,Qd.2.1,Qd.2.2.1,Qd.2.2.2.1,Qd.2.2.2.2.1,Qd.2.2.2.2.2.1,Qd.2.2.2.2.2.2.1,Qd.2.2.2.2.2.2.2.1,()))) (InI (Qd.1+1)/\q80 (Qd.1+1,Qd.2.1,Qd.2.2.1,Qd.2.2.2.1,Qd.2.2.2.2.1,Qd.2.2.2.2.2.1,Qd.2.2.2.2.2.2.1,Qd.2.2.2.2.2.2.2.1,())))) (InI (Qd.1+1)/\q80 (Qd.1+1,Qd.2.1,Qd.2.2.1,Qd.2.2.2.1,Qd.2.2.2.2.1,Qd.2.2.2.2.2.1,Qd.2.2.2.2.2.2.1,Qd.2.2.2.2.2.2.2.1,()))) (InI (Qd.1+1)/\q80 (Qd.1+1,Qd.2.1,Qd.2.2.1,Qd.2.2.2.1,Qd.2.2.2.2.1,Qd.2.2.2.2.2.1,Qd.2.2.2.2.2.2.1,Qd.2.2.2.2.2.2.2.1,()))) (K (Slt.mk (B8 []) (B8 []) (B8 []) (0:Int) (0:Int) (0:Int) (0:Int)) false)) ((0:Int),B8 [],B8 [],B8 [],(0:Int),(0:Int),(0:Int),(0:Int),())
def q5i:q2o:=q9s Vx Jv
abbrev q2p:Type:=Reg->ByteArray->ByteArray->Int->(Slt->Bool->Prop)->Prop
def q9t(Q5:Z7)(q6f:q2o):q2p:=fun r id layer time K=>Q5 r fun Qa=>Cnd (Qa=true) (q6f r id layer time fun Qm q1s=>K Qm q1s) (K (Slt.mk (B8 []) (B8 []) (B8 []) (0:Int) (0:Int) (0:Int) (0:Int)) false)
def q5j:q2p:=q9t V4 q5i
abbrev U6:Type:=Envt->ByteArray->(Lay_->Bool->Prop)->Prop
def Ri:U6:=fun v key K=>Fits v.5->LpH (fun (Qm:Int×ByteArray×ByteArray×ByteArray×Int×Int×List Col×Unit) q6e=>CAt v.5 Qm.1 (fun y2=>Cnd (y2.1=key) (K y2 true) (InI (Qm.1+1)/\q6e (Qm.1+1,Qm.2.1,Qm.2.2.1,Qm.2.2.2.1,Qm.2.2.2.2.1,Qm.2.2.2.2.2.1,Qm.2.2.2.2.2.2.1,()))) (K (Lay_.mk (B8 []) (B8 []) (B8 []) (0:Int) (0:Int) []) false)) ((0:Int),B8 [],B8 [],B8 [],(0:Int),(0:Int),[],())
abbrev J5:Type:=Lnk->ByteArray->(ByteArray->Bool->Prop)->Prop
def Vy:J5:=fun k id K=>Cnd (id=k.1) (K k.2 true) (Cnd (id=k.2) (K k.1 true) (K (B8 []) false))
abbrev Ji:Type:=List (Lnk)->ByteArray->((ByteArray->Option (Int))->Prop)->Prop
def Gf(Zs:J5):Ji:=fun l b K=>Lp2 (fun Qa Ba j6i=>Fits Qa->Cnd ((0:Int)<(↑Qa.length:Int)) (Fits Qa->Lp3 (fun Qd G8 z89 v2h=>CAt Qa G8 (fun y4=>Fits l->Lp3 (fun Hr v0c w36 v34=>CAt l v0c (fun y8=>Zs y8 y4 fun q3b v35=>Cnd (v35=true) (Cnd ((w36 q3b).isSome=true) (InI (v0c+1)/\v34 Hr (v0c+1) w36) (InI ((w36 y4).getD (0:Int)+(1:Int))/\Sml (Hr++[q3b]).length/\InI (v0c+1)/\v34 (Hr++[q3b]) (v0c+1) (put w36 q3b ((w36 y4).getD (0:Int)+(1:Int))))) (InI (v0c+1)/\v34 Hr (v0c+1) w36)) (InI (G8+1)/\v2h Hr (G8+1) w36)) Qd (0:Int) z89) (j6i Qd z89)) [] (0:Int) Ba) (K Ba)) [b] (put (fun _=>none) b (0:Int))
def Wo:Ji:=Gf Vy
abbrev Ur:Type:=List (Lnk)->ByteArray->ByteArray->(List (Lnk)->Bool->Prop)->Prop
def q2q(Wq:Ji)(Zs:J5):Ur:=fun l a b K=>Wq l b fun z0g=>Cnd ((z0g a).isSome=true) (Lp2 (fun Qm q1s w31=>Cnd (Qm=b) (K q1s true) (Fits l->Lp3 (fun Qd G8 w6l v2h=>CAt l w6l (fun y4=>Zs y4 Qd fun Jc q8z=>Cnd (q8z=true) (Cnd ((z0g Jc).isSome=true) (InI ((z0g Qd).getD (0:Int) - (1:Int))/\Cnd ((z0g Jc).getD (0:Int)=(z0g Qd).getD (0:Int) - (1:Int)) (Sml (G8++[y4]).length/\w31 Jc (G8++[y4])) (InI (w6l+1)/\v2h Qd G8 (w6l+1))) (InI (w6l+1)/\v2h Qd G8 (w6l+1))) (InI (w6l+1)/\v2h Qd G8 (w6l+1))) (K G8 true)) Qm q1s (0:Int))) a []) (K [] false)
def Rj:Ur:=q2q Wo Vy
abbrev Jw:Type:=Reg->Envt->ByteArray->ByteArray->Int->(Rcd->Int->Prop)->Prop
def q2r(Q5:Z7)(q6g:q2p)(Jo:U6)(Zr:J4)(R7:Ur)(Qs:Jr):Jw:=fun r v id key time K=>Q5 r fun Qa=>Cnd (Qa=true) (q6g r id key time fun Qm q1s=>Jo (Envt.mk (Sett.mk v.1.1 v.1.2 v.1.3) v.2 v.3 v.4 v.5 v.6) key fun Qh Gi=>Cnd (q1s=true) (Cnd (Gi=true) (Zr r.2 time fun Qd=>R7 Qd id Qm.1 fun Qc _=>Qs Qh.3 Qm.1 fun Qt=>K (Rcd.mk id time Qm Qt Qc) (0:Int)) (K (Rcd.mk (B8 []) (0:Int) (Slt.mk (B8 []) (B8 []) (B8 []) (0:Int) (0:Int) (0:Int) (0:Int)) (0:Int) []) (11:Int))) (K (Rcd.mk (B8 []) (0:Int) (Slt.mk (B8 []) (B8 []) (B8 []) (0:Int) (0:Int) (0:Int) (0:Int)) (0:Int) []) (11:Int))) (K (Rcd.mk (B8 []) (0:Int) (Slt.mk (B8 []) (B8 []) (B8 []) (0:Int) (0:Int) (0:Int) (0:Int)) (0:Int) []) (25:Int))
def Us:Jw:=q2r V4 q5j Ri Vx Rj Va
abbrev q1e:Type:=List (Lnk)->ByteArray->ByteArray->Int->(Bool->Prop)->Prop
def q1f:q1e:=fun l a b time K=>Fits l->Lp2 (fun Qm q1s w31=>CAt l q1s (fun y2=>Cnd (time<y2.3) (K false) (Cnd (y2.1=Qm) (InI (q1s+1)/\w31 y2.2 (q1s+1)) (Cnd (y2.2=Qm) (InI (q1s+1)/\w31 y2.1 (q1s+1)) (K false)))) (K (decide (Qm=b)))) a (0:Int)
abbrev Vj:Type:=Rcd->Envt->(Int->Prop)->Prop
def q5k(q11:q1e)(Jo:U6)(Qs:Jr)(Zq:U5)(Qy:Wx):Vj:=fun x v K=>Jn1 (fun Qa=>Cnd (Qa=true) (K (6:Int)) (Jn1 (fun Qm=>Cnd (Qm=true) (K (26:Int)) (q11 x.5 x.1 x.3.1 x.2 fun Qh=>Cnd (Qh=true) (Jo (Envt.mk (Sett.mk v.1.1 v.1.2 v.1.3) v.2 v.3 v.4 v.5 v.6) x.3.2 fun Qd G8=>Fits v.6->Lp1 (fun Qt j2l=>CAt v.6 Qt (fun y6=>Cnd (y6.1=x.3.3) (Cnd (y6.2=x.3.2) (Cnd (G8=true) (Cnd (Qt<0) (K (11:Int)) (At v.6 Qt fun y8=>Qs Qd.3 x.3.1 fun q3b=>Cnd (x.4=q3b) (Fits y8.6->Lp1 (fun q81 v2i=>CAt y8.6 q81 (fun y13=>Cnd (y13.1<=x.4) (Cnd (x.4<y13.2) (Cnd ((0:Int)<=q81) (Qs y8.4 x.3.1 fun v0b=>Zq y8.7 v0b fun v36=>Cnd (x.3.4=v36) (K (0:Int)) (K (23:Int))) (K (25:Int))) (InI (q81+1)/\v2i (q81+1))) (InI (q81+1)/\v2i (q81+1))) (Cnd ((0:Int)<=(-1:Int)) (Qs y8.4 x.3.1 fun w32=>Zq y8.7 w32 fun z15=>Cnd (x.3.4=z15) (K (0:Int)) (K (23:Int))) (K (25:Int)))) (0:Int)) (K (3:Int)))) (K (11:Int))) (InI (Qt+1)/\j2l (Qt+1))) (InI (Qt+1)/\j2l (Qt+1))) (Cnd (G8=true) (Cnd ((-1:Int)<(0:Int)) (K (11:Int)) (At v.6 (-1:Int) fun y6=>Qs Qd.3 x.3.1 fun q4i=>Cnd (x.4=q4i) (Fits y6.6->Lp1 (fun q3b v2j=>CAt y6.6 q3b (fun y11=>Cnd (y11.1<=x.4) (Cnd (x.4<y11.2) (Cnd ((0:Int)<=q3b) (Qs y6.4 x.3.1 fun w32=>Zq y6.7 w32 fun z15=>Cnd (x.3.4=z15) (K (0:Int)) (K (23:Int))) (K (25:Int))) (InI (q3b+1)/\v2j (q3b+1))) (InI (q3b+1)/\v2j (q3b+1))) (Cnd ((0:Int)<=(-1:Int)) (Qs y6.4 x.3.1 fun v0d=>Zq y6.7 v0d fun q81=>Cnd (x.3.4=q81) (K (0:Int)) (K (23:Int))) (K (25:Int)))) (0:Int)) (K (3:Int)))) (K (11:Int)))) (0:Int)) (K (15:Int)))) fun v0g=>Cnd (x.2<x.3.5) (v0g (decide (x.2<x.3.5))) (Cnd (x.3.7=0) (v0g false) (v0g (decide (x.3.6<=x.2)))))) fun z0g=>Qy x.1 fun Qm=>Cnd (Qm=true) (Qy x.3.1 fun Qh=>z0g (match decide ((Qh,()).1=true) with|true=>false|false=>true)) (z0g (match decide ((Qm,()).1=true) with|true=>false|false=>true))
def Rk:Vj:=q5k q1f Ri Va Re Be
abbrev Rl:Type:=(Bool->Prop)->Prop
def q5l(Zt:Jf)(z16:z0w)(B4:Gn)(R8:Uq)(Zz:Jw)(Z9:Vj):Rl:=fun K=>Zt (0:Int) (0:Int) (9998:Int) (4000:Int) (3000:Int) fun Qa=>z16 (B8 [97,110,110]) fun Qm=>B4 (Envt.mk (Sett.mk Qa.1.1 Qa.1.2 Qa.1.3) Qa.2 Qa.3 Qa.4 Qa.5 Qa.6) (Subj.mk Qm.1) [] (B8 [104,111,109,101]) fun Qh Gi=>R8 (Reg.mk (0:Int) [] []) (B8 [97,110,110]) Qh (0:Int) (1:Int) fun Qd _ w6l=>Zz Qd (Envt.mk (Sett.mk Qa.1.1 Qa.1.2 Qa.1.3) Qa.2 Qa.3 Qa.4 Qa.5 Qa.6) (B8 [97,110,110]) (B8 [104,111,109,101]) (1:Int) fun Qc Ui=>InI (Qc.4+1)/\(10000:Int)≠(0:Int)/\Cnd (Gi=0) (Cnd (w6l=0) (Cnd (Ui=0) (Cnd ((0:Int)<Qh.4) (Cnd (Qc.3.4=Qh.4) (Cnd (Qc.3.1=B8 [97,110,110]) (Cnd (Qc.4=Qh.3) (Z9 (Rcd.mk Qc.1 Qc.2 (Slt.mk Qc.3.1 Qc.3.2 Qc.3.3 Qc.3.4 Qc.3.5 Qc.3.6 Qc.3.7) Qc.4 Qc.5) (Envt.mk (Sett.mk Qa.1.1 Qa.1.2 Qa.1.3) Qa.2 Qa.3 Qa.4 Qa.5 Qa.6) fun Qt=>Cnd (Qt=0) (Z9 (Rcd.mk Qc.1 Qc.2 (Slt.mk Qc.3.1 Qc.3.2 Qc.3.3 Qc.3.4 Qc.3.5 Qc.3.6 Qc.3.7) ((Qc.4+1).tmod (10000:Int)) Qc.5) (Envt.mk (Sett.mk Qa.1.1 Qa.1.2 Qa.1.3) Qa.2 Qa.3 Qa.4 Qa.5 Qa.6) fun Jc=>K (decide (Jc=3))) (K false)) (K false)) (K false)) (K false)) (K false)) (K false)) (K false)) (K false)
def q1g:Rl:=q5l Vt z6m Bw Rh Us Rk
abbrev Z1:Type:=AEnv->(Envt->Prop)->Prop
def V6(Zt:Jf):Z1:=fun x K=>Zt x.1 x.2 x.3 x.4 x.5 fun Qa=>K (Envt.mk (Sett.mk Qa.1.1 Qa.1.2 Qa.1.3) Qa.2 Qa.3 Qa.4 Qa.5 Qa.6)
def Jx:Z1:=V6 Vt
abbrev z0x:Type:=ByteArray->(Bool->Prop)->Prop
def z0y:z0x:=fun s K=>Lp1 (fun Qa Ba=>Cnd (Qa<(↑s.size:Int)) (((0:Int)<=Qa/\Qa<(↑s.size:Int))/\ ∀b1,s[Qa.toNat]? =some b1->Cnd ((97:Int)<=(↑b1.toNat:Int)) (Cnd ((↑b1.toNat:Int)<=122) (InI (Qa+1)/\Ba (Qa+1)) (Cnd (Qa=0) (K false) (Cnd ((48:Int)<=(↑b1.toNat:Int)) (Cnd ((↑b1.toNat:Int)<=57) (InI (Qa+1)/\Ba (Qa+1)) (Cnd ((↑b1.toNat:Int)=45) (InI (Qa+1)/\Ba (Qa+1)) (Cnd ((↑b1.toNat:Int)=95) (InI (Qa+1)/\Ba (Qa+1)) (K false)))) (Cnd ((↑b1.toNat:Int)=45) (InI (Qa+1)/\Ba (Qa+1)) (Cnd ((↑b1.toNat:Int)=95) (InI (Qa+1)/\Ba (Qa+1)) (K false)))))) (Cnd (Qa=0) (K false) (Cnd ((48:Int)<=(↑b1.toNat:Int)) (Cnd ((↑b1.toNat:Int)<=57) (InI (Qa+1)/\Ba (Qa+1)) (Cnd ((↑b1.toNat:Int)=45) (InI (Qa+1)/\Ba (Qa+1)) (Cnd ((↑b1.toNat:Int)=95) (InI (Qa+1)/\Ba (Qa+1)) (K false)))) (Cnd ((↑b1.toNat:Int)=45) (InI (Qa+1)/\Ba (Qa+1)) (Cnd ((↑b1.toNat:Int)=95) (InI (Qa+1)/\Ba (Qa+1)) (K false)))))) (K (decide ((0:Int)<(↑s.size:Int))))) (0:Int)
abbrev q1h:Type:=(List (ByteArray)->Prop)->Prop
def q1i:q1h:=fun K=>K [B8 [97,110,100],B8 [97,114,109,115],B8 [97,116,116,114,105,98,117,116,101],B8 [98,111,111,108],B8 [99,108,97,105,109,115],B8 [99,111,110,116,97,105,110,115],B8 [99,111,111,108],B8 [99,111,111,108,105,110,103],B8 [100,101,102,97,117,108,116],B8 [100,114,97,102,116],B8 [101,110,100,115],B8 [101,120,99,108,117,100,101],B8 [101,120,105,115,116,115],B8 [101,120,112,101,114,105,109,101,110,116],B8 [102,97,108,115,101],B8 [102,108,97,103],B8 [104,111,108,100,111,117,116],B8 [105,110],B8 [105,110,99,108,117,100,101],B8 [105,115],B8 [108,97,121,101,114],B8 [108,105,115,116],B8 [109,101,109,98,101,114],B8 [110,101,101,100,115],B8 [110,111,116],B8 [110,117,109,98,101,114],B8 [111,102,102],B8 [111,110],B8 [111,114],B8 [114,117,108,101],B8 [114,117,110,110,105,110,103],B8 [115,97,108,116],B8 [115,101,103,109,101,110,116],B8 [115,101,114,118,101],B8 [115,101,116,116,105,110,103,115],B8 [115,112,108,105,116],B8 [115,116,97,114,116,115],B8 [115,116,111,112,112,101,100],B8 [116,97,114,103,101,116],B8 [116,101,120,116],B8 [116,111],B8 [116,114,117,101],B8 [117,110,116,105,108],B8 [118,97,114,105,97,116,105,111,110,115],B8 [118,101,114,115,105,111,110],B8 [119,104,101,110]]
abbrev q1j:Type:=ByteArray->(Bool->Prop)->Prop
def j0w(z17:z0x)(q12:q1h):q1j:=fun s K=>z17 s fun Qa=>Cnd (Qa=true) (Cnd ((32:Int)<(↑s.size:Int)) (K false) (q12 fun Qm=>Lp1 (fun Qh q7u=>Fits Qm->CAt Qm Qh (fun y4=>Cnd (y4=s) (K false) (InI (Qh+1)/\q7u (Qh+1))) (K true)) (0:Int))) (K false)
def q75:q1j:=j0w z0y q1i
abbrev By:Type:=List (ByteArray)->ByteArray->(Bool->Prop)->Prop
def q3i:By:=fun l s K=>Lp1 (fun Qa Ba=>Fits l->CAt l Qa (fun y2=>Cnd (y2=s) (K true) (InI (Qa+1)/\Ba (Qa+1))) (K false)) (0:Int)
abbrev q3j:Type:=List (ByteArray)->ByteArray->(List (ByteArray)->Prop)->Prop
def q0d:q3j:=fun l s K=>Lp1 (fun Qa Ba=>Fits l->CAt l Qa (fun y2=>Cnd (Lk.blt y2 s) (InI (Qa+1)/\Ba (Qa+1)) (((0:Int)<=(0:Int)/\(0:Int)<=Qa/\Qa<=(↑l.length:Int))/\((0:Int)<=Qa/\Qa<=(↑l.length:Int)/\(↑l.length:Int)<=(↑l.length:Int))/\((Sml ([]++List.drop (Int.toNat (0:Int)) (List.take Qa.toNat l)).length/\Sml ([]++List.drop (Int.toNat (0:Int)) (List.take Qa.toNat l)++[s]).length/\Sml ([]++List.drop (Int.toNat (0:Int)) (List.take Qa.toNat l)++[s]++List.drop Qa.toNat (List.take (↑l.length:Int).toNat l)).length/\K ([]++List.drop (Int.toNat (0:Int)) (List.take Qa.toNat l)++[s]++List.drop Qa.toNat (List.take (↑l.length:Int).toNat l)))/\Sml ([]++List.drop (Int.toNat (0:Int)) (List.take Qa.toNat l)).length/\Sml ([]++List.drop (Int.toNat (0:Int)) (List.take Qa.toNat l)++[s]).length/\Sml ([]++List.drop (Int.toNat (0:Int)) (List.take Qa.toNat l)++[s]++List.drop Qa.toNat (List.take (↑l.length:Int).toNat l)).length/\K ([]++List.drop (Int.toNat (0:Int)) (List.take Qa.toNat l)++[s]++List.drop Qa.toNat (List.take (↑l.length:Int).toNat l)))/\Sml ([]++List.drop (Int.toNat (0:Int)) (List.take Qa.toNat l)).length/\Sml ([]++List.drop (Int.toNat (0:Int)) (List.take Qa.toNat l)++[s]).length/\Sml ([]++List.drop (Int.toNat (0:Int)) (List.take Qa.toNat l)++[s]++List.drop Qa.toNat (List.take (↑l.length:Int).toNat l)).length/\K ([]++List.drop (Int.toNat (0:Int)) (List.take Qa.toNat l)++[s]++List.drop Qa.toNat (List.take (↑l.length:Int).toNat l)))) (((0:Int)<=(0:Int)/\(0:Int)<=Qa/\Qa<=(↑l.length:Int))/\((0:Int)<=Qa/\Qa<=(↑l.length:Int)/\(↑l.length:Int)<=(↑l.length:Int))/\((Sml ([]++List.drop (Int.toNat (0:Int)) (List.take Qa.toNat l)).length/\Sml ([]++List.drop (Int.toNat (0:Int)) (List.take Qa.toNat l)++[s]).length/\Sml ([]++List.drop (Int.toNat (0:Int)) (List.take Qa.toNat l)++[s]++List.drop Qa.toNat (List.take (↑l.length:Int).toNat l)).length/\K ([]++List.drop (Int.toNat (0:Int)) (List.take Qa.toNat l)++[s]++List.drop Qa.toNat (List.take (↑l.length:Int).toNat l)))/\Sml ([]++List.drop (Int.toNat (0:Int)) (List.take Qa.toNat l)).length/\Sml ([]++List.drop (Int.toNat (0:Int)) (List.take Qa.toNat l)++[s]).length/\Sml ([]++List.drop (Int.toNat (0:Int)) (List.take Qa.toNat l)++[s]++List.drop Qa.toNat (List.take (↑l.length:Int).toNat l)).length/\K ([]++List.drop (Int.toNat (0:Int)) (List.take Qa.toNat l)++[s]++List.drop Qa.toNat (List.take (↑l.length:Int).toNat l)))/\Sml ([]++List.drop (Int.toNat (0:Int)) (List.take Qa.toNat l)).length/\Sml ([]++List.drop (Int.toNat (0:Int)) (List.take Qa.toNat l)++[s]).length/\Sml ([]++List.drop (Int.toNat (0:Int)) (List.take Qa.toNat l)++[s]++List.drop Qa.toNat (List.take (↑l.length:Int).toNat l)).length/\K ([]++List.drop (Int.toNat (0:Int)) (List.take Qa.toNat l)++[s]++List.drop Qa.toNat (List.take (↑l.length:Int).toNat l)))) (0:Int)
abbrev Rm:Type:=List (Lnk)->ByteArray->(List (ByteArray)->Prop)->Prop
def q5m(Z0:By)(q3t:q3j):Rm:=fun l id K=>Lp2 (fun Qa Gh j6i=>Cnd (Gh=true) (Lp3 (fun Qm q1s z8f v0a=>Fits l->CAt l z8f (fun y3=>At l z8f fun y5=>Z0 Qm y3.1 fun Hr=>Z0 Qm y5.2 fun q4i=>Cnd (Hr=q4i) (InI (z8f+1)/\v0a Qm q1s (z8f+1)) (At l z8f fun y9=>Jn1 (fun v0d=>q3t Qm v0d fun q81=>InI (z8f+1)/\v0a q81 true (z8f+1)) fun v2k=>Cnd (Hr=true) (At l z8f fun y12=>v2k y12.2) (v2k y9.1))) (j6i Qm q1s)) Qa false (0:Int)) (K Qa)) [id] true
def q1k:Rm:=q5m q3i q0d
abbrev Bf:Type:=List (Lnk)->ByteArray->ByteArray->(Bool->Prop)->Prop
def z2u(q13:Rm)(Z0:By):Bf:=fun l a b K=>q13 l a fun Qa=>Z0 Qa b fun Qm=>K Qm
def q19:Bf:=z2u q1k q3i
abbrev q4r:Type:=Reg->Int->(Bool->Prop)->Prop
def z2v(Jy:q1j)(W0:Bf):q4r:=fun r i K=>At r.3 i fun y0=>Jy y0.1 fun Qh=>Cnd (Qh=true) (Jy y0.2 fun Qd=>Cnd (Qd=true) (Jy y0.3 fun Qc=>Cnd (Qc=true) (Cnd (y0.4<1) (K false) (Cnd ((8:Int)<y0.4) (K false) (Cnd (y0.5<0) (K false) (Cnd (r.1<y0.5) (K false) (Cnd ((0:Int)<i) (InI (i - 1)/\((0:Int)<=i - 1/\i - 1<(↑r.3.length:Int))/\ ∀y5,r.3[(i - 1).toNat]? =some y5->Cnd (y0.5<y5.5) (K false) (Jn0 (Lp1 (fun Hr j9k=>Cnd (Hr<i) (At r.3 Hr fun y8=>Cnd (y0.7=0) (Cnd (y8.7=0) (Cnd (y0.2=y8.2) (W0 r.2 y0.1 y8.1 fun q3b=>Cnd (q3b=true) (K false) (InI (Hr+1)/\j9k (Hr+1))) (InI (Hr+1)/\j9k (Hr+1))) (InI (Hr+1)/\j9k (Hr+1))) (InI (Hr+1)/\j9k (Hr+1))) (K true)) (0:Int)) fun Hr=>Cnd (y0.7=0) (Cnd (y0.6=0) Hr (K false)) (Jn1 (fun q4i=>Cnd (q4i=true) (Cnd (y0.6<y0.5) (K false) (Cnd (r.1<y0.6) (K false) Hr)) (K false)) fun v2l=>Cnd (y0.7=1) (v2l (decide (y0.7=1))) (v2l (decide (y0.7=2)))))) (Jn0 (Lp1 (fun Qt j2l=>Cnd (Qt<i) (At r.3 Qt fun y6=>Cnd (y0.7=0) (Cnd (y6.7=0) (Cnd (y0.2=y6.2) (W0 r.2 y0.1 y6.1 fun q4i=>Cnd (q4i=true) (K false) (InI (Qt+1)/\j2l (Qt+1))) (InI (Qt+1)/\j2l (Qt+1))) (InI (Qt+1)/\j2l (Qt+1))) (InI (Qt+1)/\j2l (Qt+1))) (K true)) (0:Int)) fun Qt=>Cnd (y0.7=0) (Cnd (y0.6=0) Qt (K false)) (Jn1 (fun Jc=>Cnd (Jc=true) (Cnd (y0.6<y0.5) (K false) (Cnd (r.1<y0.6) (K false) Qt)) (K false)) fun v0h=>Cnd (y0.7=1) (v0h (decide (y0.7=1))) (v0h (decide (y0.7=2)))))))))) (K false)) (K false)) (K false)
def q76:q4r:=z2v q75 q19
abbrev Hj:Type:=Reg->(Bool->Prop)->Prop
def q9u(Jy:q1j)(q8p:q4r):Hj:=fun r K=>Cnd (r.1<0) (K false) (Cnd ((1099511627776:Int)<r.1) (K false) (Fits r.2->Cnd ((64:Int)<(↑r.2.length:Int)) (K false) (Fits r.3->Cnd ((128:Int)<(↑r.3.length:Int)) (K false) (Lp1 (fun Qh q7u=>Fits r.2->CAt r.2 Qh (fun y4=>Jy y4.1 fun Jc=>Cnd (Jc=true) (Jy y4.2 fun Hr=>Cnd (Hr=true) (Cnd (y4.1=y4.2) (K false) (Cnd (y4.3<0) (K false) (Cnd (r.1<y4.3) (K false) (Cnd ((0:Int)<Qh) (InI (Qh - 1)/\((0:Int)<=Qh - 1/\Qh - 1<(↑r.2.length:Int))/\ ∀y8,r.2[(Qh - 1).toNat]? =some y8->Cnd (y4.3<y8.3) (K false) (InI (Qh+1)/\q7u (Qh+1))) (InI (Qh+1)/\q7u (Qh+1)))))) (K false)) (K false)) (Lp1 (fun Qc j6j=>Fits r.3->Cnd (Qc<(↑r.3.length:Int)) (q8p r Qc fun Jc=>Cnd (Jc=true) (InI (Qc+1)/\j6j (Qc+1)) (K false)) (K true)) (0:Int))) (0:Int)))))
def q2s:Hj:=q9u q75 q76
abbrev Bg:Type:=List (Lnk)->Int->(List (Lnk)->Prop)->Prop
def q2t:Bg:=fun l time K=>Lp2 (fun Qa Gh j6i=>Fits l->CAt l Gh (fun y2=>Cnd (y2.3<=time) (At l Gh fun y4=>Sml (Qa++[y4]).length/\InI (Gh+1)/\j6i (Qa++[y4]) (Gh+1)) (InI (Gh+1)/\j6i Qa (Gh+1))) (K Qa)) [] (0:Int)
abbrev z0z:Type:=Reg->ByteArray->ByteArray->Int->(Slt->Bool->Prop)->Prop
def j0x(Vq:Hj)(Vr:Bg)(W0:Bf):z0z:=fun r id layer time K=>Vq r fun Qa=>Cnd (Qa=true) (Vr r.2 time fun Qm=>LpH (fun (Qh:Int×ByteArray×ByteArray×ByteArray×Int×Int×Int×Int×Unit) q7u=>Fits r.3->CAt r.3 Qh.1 (fun y4=>Cnd (y4.2=layer) (Cnd (y4.5<=time) (Cnd (y4.7=0) (W0 Qm y4.1 id fun Jc=>Cnd (Jc=true) (K y4 true) (InI (Qh.1+1)/\q7u (Qh.1+1,Qh.2.1,Qh.2.2.1,Qh.2.2.2.1,Qh.2.2.2.2.1,Qh.2.2.2.2.2.1,Qh.2.2.2.2.2.2.1,Qh.2.2.2.2.2.2.2.1,()))) (Cnd (time<y4.6) (W0 Qm y4.1 id fun Jc=>Cnd (Jc=true) (K y4 true) (InI (Qh.1+1)/\q7u (Qh.1+1,Qh.2.1,Qh.2.2.1,Qh.2.2.2.1,Qh.2.2.2.2.1,Qh.2.2.2.2.2.1,Qh.2.2.2.2.2.2.1,Qh.2.2.2.2.2.2.2.1,()))) (InI (Qh.1+1)/\q7u (Qh.1+1,Qh.2.1,Qh.2.2.1,Qh.2.2.2.1,Qh.2.2.2.2.1,Qh.2.2.2.2.2.1,Qh.2.2.2.2.2.2.1,Qh.2.2.2.2.2.2.2.1,())))) (InI (Qh.1+1)/\q7u (Qh.1+1,Qh.2.1,Qh.2.2.1,Qh.2.2.2.1,Qh.2.2.2.2.1,Qh.2.2.2.2.2.1,Qh.2.2.2.2.2.2.1,Qh.2.2.2.2.2.2.2.1,()))) (InI (Qh.1+1)/\q7u (Qh.1+1,Qh.2.1,Qh.2.2.1,Qh.2.2.2.1,Qh.2.2.2.2.1,Qh.2.2.2.2.2.1,Qh.2.2.2.2.2.2.1,Qh.2.2.2.2.2.2.2.1,()))) (K (Slt.mk (B8 []) (B8 []) (B8 []) (0:Int) (0:Int) (0:Int) (0:Int)) false)) ((0:Int),B8 [],B8 [],B8 [],(0:Int),(0:Int),(0:Int),(0:Int),())) (K (Slt.mk (B8 []) (B8 []) (B8 []) (0:Int) (0:Int) (0:Int) (0:Int)) false)
def z5e:z0z:=j0x q2s q2t q19
abbrev Bh:Type:=Envt->ByteArray->(Lay_->Bool->Prop)->Prop
def q2u:Bh:=fun v key K=>LpH (fun (Qa:Int×ByteArray×ByteArray×ByteArray×Int×Int×List Col×Unit) Ba=>Fits v.5->CAt v.5 Qa.1 (fun y2=>Cnd (y2.1=key) (At v.5 Qa.1 fun y4=>K y4 true) (InI (Qa.1+1)/\Ba (Qa.1+1,Qa.2.1,Qa.2.2.1,Qa.2.2.2.1,Qa.2.2.2.2.1,Qa.2.2.2.2.2.1,Qa.2.2.2.2.2.2.1,()))) (K (Lay_.mk (B8 []) (B8 []) (B8 []) (0:Int) (0:Int) []) false)) ((0:Int),B8 [],B8 [],B8 [],(0:Int),(0:Int),[],())
abbrev Gs:Type:=List (Lnk)->ByteArray->ByteArray->(Int->Prop)->Prop
def q35(Z0:By):Gs:=fun l a b K=>Lp2 (fun Qa Gh j6i=>Z0 Qa b fun Qm=>Cnd (Qm=true) (K Gh) (Sml ([]++Qa).length/\Lp3 (fun Qh Gi j4v v0i=>Fits l->Cnd (Gi<(↑l.length:Int)) (Jn2 (fun Qc Ui=>At l Gi fun y5=>Z0 Ui y5.2 fun Hr=>Cnd (Hr=true) (At l Gi fun y8=>Z0 Qc y8.1 fun q3b=>Cnd (q3b=true) (InI (Gi+1)/\v0i Qc (Gi+1) Ui) (At l Gi fun y11=>Sml (Qc++[y11.1]).length/\InI (Gi+1)/\v0i (Qc++[y11.1]) (Gi+1) Ui)) (InI (Gi+1)/\v0i Qc (Gi+1) Ui)) fun j9l=>At l Gi fun y5=>Z0 j4v y5.1 fun Hr=>Cnd (Hr=true) (At l Gi fun y8=>Z0 Qh y8.2 fun q3b=>Cnd (q3b=true) (j9l Qh j4v) (At l Gi fun y11=>Sml (Qh++[y11.2]).length/\j9l (Qh++[y11.2]) j4v)) (j9l Qh j4v)) (Fits Qh->Fits j4v->Cnd ((↑Qh.length:Int)=(↑j4v.length:Int)) (K (-1:Int)) (InI (Gh+1)/\j6i Qh (Gh+1)))) ([]++Qa) (0:Int) Qa)) [a] (0:Int)
def Bz:Gs:=q35 q3i
abbrev q4s:Type:=List (Lnk)->ByteArray->ByteArray->(List (Lnk)->Bool->Prop)->Prop
def z2w(Gx:Gs):q4s:=fun l a b K=>Gx l a b fun Qa=>Cnd (Qa<0) (K [] false) (Lp3 (fun Qm q1s z8f v0a=>Cnd ((0:Int)<q1s) (Lp3 (fun Qh Gi j4v v0i=>Fits l->CAt l j4v (fun y4=>At l j4v fun y6=>Jn2 (fun q4i v4h=>Cnd (v4h=true) (Gx l q4i b fun Qp=>InI (q1s - 1)/\Cnd (Qp=q1s - 1) (At l j4v fun y10=>Sml (Gi++[y10]).length/\InI (q1s - 1)/\v0a q4i (q1s - 1) (Gi++[y10])) (InI (j4v+1)/\v0i Qh Gi (j4v+1))) (InI (j4v+1)/\v0i Qh Gi (j4v+1))) fun v2l=>Cnd (y6.1=Qh) (v2l y4.2 (decide (y6.1=Qh))) (At l j4v fun y9=>At l j4v fun y11=>v2l y9.1 (decide (y11.2=Qh)))) (InI (q1s - 1)/\v0a Qh (q1s - 1) Gi)) Qm z8f (0:Int)) (K z8f true)) a Qa [])
def q77:q4s:=z2w Bz
abbrev q78:Type:=List (List Int)->(List (Int)->Prop)->Prop
def q79:q78:=fun fields K=>Lp2 (fun Qa Gh j6i=>Fits fields->CAt fields Gh (fun y2=>Fits y2->Lp2 (fun Qt q9i v2c=>Cnd ((0:Int)<=q9i) ((0:Int)<=Go.IntKind.u64.wrap q9i/\Sml (Qt++[Go.IntKind.u8.wrap ((Go.IntKind.u64.wrap (↑y2.length:Int)).fdiv ((2:Int) ^ Min.min (Go.IntKind.u64.wrap q9i).toNat (64:Nat)))]).length/\InI (q9i - 8)/\v2c (Qt++[Go.IntKind.u8.wrap ((Go.IntKind.u64.wrap (↑y2.length:Int)).fdiv ((2:Int) ^ Min.min (Go.IntKind.u64.wrap q9i).toNat (64:Nat)))]) (q9i - 8)) (At fields Gh fun y6=>Sml (Qt++y6).length/\InI (Gh+1)/\j6i (Qt++y6) (Gh+1))) Qa (56:Int)) (K Qa)) [] (0:Int)
abbrev q5n:Type:=Int->Int->(Int->Prop)->Prop
def q5o:q5n:=fun x n K=>(0:Int)<=n/\(0:Int)<=Go.IntKind.u64.wrap ((64:Int) - n)/\K (Go.IntKind.u64.wrap (↑(BitVec.ofInt (64:Nat) (Go.IntKind.u64.wrap (x*2 ^ Min.min n.toNat (64:Nat)))|||BitVec.ofInt (64:Nat) (x.fdiv ((2:Int) ^ Min.min (Go.IntKind.u64.wrap ((64:Int) - n)).toNat (64:Nat)))).toNat:Int))
abbrev Vz:Type:=Sip->Int->(Sip->Prop)->Prop
def q0q(Vs:q5n):Vz:=fun v n K=>Lp5 (fun Qa Gh z9a z9b j2k v0e=>Cnd (Qa<n) (Vs z9a (13:Int) fun Qm=>Vs (Go.IntKind.u64.wrap (Gh+z9a)) (32:Int) fun Qh=>Vs j2k (16:Int) fun Qd=>Vs (Go.IntKind.u64.wrap (↑(BitVec.ofInt (64:Nat) Qd ^^^ BitVec.ofInt (64:Nat) (Go.IntKind.u64.wrap (z9b+j2k))).toNat:Int)) (21:Int) fun Qc=>Vs (Go.IntKind.u64.wrap (↑(BitVec.ofInt (64:Nat) Qm ^^^ BitVec.ofInt (64:Nat) (Go.IntKind.u64.wrap (Gh+z9a))).toNat:Int)) (17:Int) fun Qt=>Vs (Go.IntKind.u64.wrap (Go.IntKind.u64.wrap (z9b+j2k)+Go.IntKind.u64.wrap (↑(BitVec.ofInt (64:Nat) Qm ^^^ BitVec.ofInt (64:Nat) (Go.IntKind.u64.wrap (Gh+z9a))).toNat:Int))) (32:Int) fun Jc=>InI (Qa+1)/\v0e (Qa+1) (Go.IntKind.u64.wrap (Qh+Go.IntKind.u64.wrap (↑(BitVec.ofInt (64:Nat) Qd ^^^ BitVec.ofInt (64:Nat) (Go.IntKind.u64.wrap (z9b+j2k))).toNat:Int))) (Go.IntKind.u64.wrap (↑(BitVec.ofInt (64:Nat) Qt ^^^ BitVec.ofInt (64:Nat) (Go.IntKind.u64.wrap (Go.IntKind.u64.wrap (z9b+j2k)+Go.IntKind.u64.wrap (↑(BitVec.ofInt (64:Nat) Qm ^^^ BitVec.ofInt (64:Nat) (Go.IntKind.u64.wrap (Gh+z9a))).toNat:Int)))).toNat:Int)) Jc (Go.IntKind.u64.wrap (↑(BitVec.ofInt (64:Nat) Qc ^^^ BitVec.ofInt (64:Nat) (Go.IntKind.u64.wrap (Qh+Go.IntKind.u64.wrap (↑(BitVec.ofInt (64:Nat) Qd ^^^ BitVec.ofInt (64:Nat) (Go.IntKind.u64.wrap (z9b+j2k))).toNat:Int)))).toNat:Int))) (K (Sip.mk Gh z9a z9b j2k))) (0:Int) v.1 v.2 v.3 v.4
def Zo:Vz:=q0q q5o
abbrev z00:Type:=Int->Int->List (Int)->(Int->Prop)->Prop
def j0y(J6:Vz):z00:=fun k0 k1 b K=>Lp5 (fun Qa Gh z9a z9b j2k v0e=>Fits b->(8:Int)≠(0:Int)/\InI ((↑b.length:Int).tdiv (8:Int))/\Cnd (Qa<=(↑b.length:Int).tdiv (8:Int)) (Lp2 (fun Qh Gi j76=>Cnd (Gi<8) (InI ((8:Int)*Qa)/\InI ((8:Int)*Qa+Gi)/\(Fits b->Cnd ((8:Int)*Qa+Gi<(↑b.length:Int)) (InI ((8:Int)*Qa)/\InI ((8:Int)*Qa+Gi)/\((0:Int)<=(8:Int)*Qa+Gi/\(8:Int)*Qa+Gi<(↑b.length:Int))/\ ∀y4,b[((8:Int)*Qa+Gi).toNat]? =some y4->InI ((8:Int)*Gi)/\(0:Int)<=Go.IntKind.u64.wrap ((8:Int)*Gi)/\InI (Gi+1)/\j76 (Go.IntKind.u64.wrap (↑(BitVec.ofInt (64:Nat) Qh|||BitVec.ofInt (64:Nat) (Go.IntKind.u64.wrap (Go.IntKind.u64.wrap y4*2 ^ Min.min (Go.IntKind.u64.wrap ((8:Int)*Gi)).toNat (64:Nat)))).toNat:Int)) (Gi+1)) (Jn1 (fun Qc=>J6 (Sip.mk Gh z9a z9b (Go.IntKind.u64.wrap (↑(BitVec.ofInt (64:Nat) j2k ^^^ BitVec.ofInt (64:Nat) Qc).toNat:Int))) (2:Int) fun Qt=>InI (Qa+1)/\v0e (Qa+1) (Go.IntKind.u64.wrap (↑(BitVec.ofInt (64:Nat) Qt.1 ^^^ BitVec.ofInt (64:Nat) Qc).toNat:Int)) Qt.2 Qt.3 Qt.4) fun j9l=>Fits b->(8:Int)≠(0:Int)/\InI ((↑b.length:Int).tdiv (8:Int))/\Cnd (Qa=(↑b.length:Int).tdiv (8:Int)) (Fits b->(256:Int)≠(0:Int)/\(0:Int)<=(56:Int)/\j9l (Go.IntKind.u64.wrap (↑(BitVec.ofInt (64:Nat) Qh|||BitVec.ofInt (64:Nat) (Go.IntKind.u64.wrap (Go.IntKind.u64.wrap ((↑b.length:Int).tmod (256:Int))*(2:Int) ^ Min.min (Int.toNat (56:Int)) (64:Nat)))).toNat:Int))) (j9l Qh)))) (Jn1 (fun Qd=>J6 (Sip.mk Gh z9a z9b (Go.IntKind.u64.wrap (↑(BitVec.ofInt (64:Nat) j2k ^^^ BitVec.ofInt (64:Nat) Qd).toNat:Int))) (2:Int) fun Qc=>InI (Qa+1)/\v0e (Qa+1) (Go.IntKind.u64.wrap (↑(BitVec.ofInt (64:Nat) Qc.1 ^^^ BitVec.ofInt (64:Nat) Qd).toNat:Int)) Qc.2 Qc.3 Qc.4) fun v2g=>Fits b->(8:Int)≠(0:Int)/\InI ((↑b.length:Int).tdiv (8:Int))/\Cnd (Qa=(↑b.length:Int).tdiv (8:Int)) (Fits b->(256:Int)≠(0:Int)/\(0:Int)<=(56:Int)/\v2g (Go.IntKind.u64.wrap (↑(BitVec.ofInt (64:Nat) Qh|||BitVec.ofInt (64:Nat) (Go.IntKind.u64.wrap (Go.IntKind.u64.wrap ((↑b.length:Int).tmod (256:Int))*(2:Int) ^ Min.min (Int.toNat (56:Int)) (64:Nat)))).toNat:Int))) (v2g Qh))) (0:Int) (0:Int)) (J6 (Sip.mk Gh z9a (Go.IntKind.u64.wrap (↑(BitVec.ofInt (64:Nat) z9b ^^^ BitVec.ofInt (64:Nat) (255:Int)).toNat:Int)) j2k) (4:Int) fun Qh=>K (Go.IntKind.u64.wrap (↑(BitVec.ofInt (64:Nat) (Go.IntKind.u64.wrap (↑(BitVec.ofInt (64:Nat) (Go.IntKind.u64.wrap (↑(BitVec.ofInt (64:Nat) Qh.1 ^^^ BitVec.ofInt (64:Nat) Qh.2).toNat:Int)) ^^^ BitVec.ofInt (64:Nat) Qh.3).toNat:Int)) ^^^ BitVec.ofInt (64:Nat) Qh.4).toNat:Int)))) (0:Int) (Go.IntKind.u64.wrap (↑(BitVec.ofInt (64:Nat) k0 ^^^ BitVec.ofInt (64:Nat) (8317987319222330741:Int)).toNat:Int)) (Go.IntKind.u64.wrap (↑(BitVec.ofInt (64:Nat) k1 ^^^ BitVec.ofInt (64:Nat) (7237128888997146477:Int)).toNat:Int)) (Go.IntKind.u64.wrap (↑(BitVec.ofInt (64:Nat) k0 ^^^ BitVec.ofInt (64:Nat) (7816392313619706465:Int)).toNat:Int)) (Go.IntKind.u64.wrap (↑(BitVec.ofInt (64:Nat) k1 ^^^ BitVec.ofInt (64:Nat) (8387220255154660723:Int)).toNat:Int))
def z5f:z00:=j0y Zo
abbrev q68:Type:=Int->List (List Int)->(Int->Prop)->Prop
def z6n(q8q:q78)(z5n:z00):q68:=fun domain fields K=>q8q fields fun Qa=>z5n domain (0:Int) Qa fun Qm=>K Qm
def z01:q68:=z6n q79 z5f
abbrev q5p:Type:=ByteArray->ByteArray->(Int->Prop)->Prop
def j0z(z18:q68):q5p:=fun salt key K=>Sml salt.size/\Sml key.size/\z18 (1:Int) [List.map (fun b=>(↑b.toNat:Int)) (salt,key,()).1.data.toList,List.map (fun b=>(↑b.toNat:Int)) (salt,key,()).2.1.data.toList] fun Qa=>(10000:Int)≠(0:Int)/\InI (Qa.tmod (10000:Int))/\K (Qa.tmod (10000:Int))
def q5q:q5p:=j0z z01
abbrev Rn:Type:=Reg->Envt->ByteArray->ByteArray->Int->(Rcd->Int->Prop)->Prop
def q5r(Vq:Hj)(z5o:z0z)(Wn:Bh)(Vr:Bg)(q8r:q4s)(Hd:q5p):Rn:=fun r v id name time K=>Vq r fun Qa=>Cnd (Qa=true) (z5o r id name time fun Qm q1s=>Wn (Envt.mk (Sett.mk v.1.1 v.1.2 v.1.3) v.2 v.3 v.4 v.5 v.6) name fun Qh Gi=>Cnd (q1s=true) (Cnd (Gi=true) (Vr r.2 time fun Qd=>q8r Qd id Qm.1 fun Qc _=>Hd Qh.3 Qm.1 fun Qt=>K (Rcd.mk id time Qm Qt Qc) (0:Int)) (K (Rcd.mk (B8 []) (0:Int) (Slt.mk (B8 []) (B8 []) (B8 []) (0:Int) (0:Int) (0:Int) (0:Int)) (0:Int) []) (11:Int))) (K (Rcd.mk (B8 []) (0:Int) (Slt.mk (B8 []) (B8 []) (B8 []) (0:Int) (0:Int) (0:Int) (0:Int)) (0:Int) []) (11:Int))) (K (Rcd.mk (B8 []) (0:Int) (Slt.mk (B8 []) (B8 []) (B8 []) (0:Int) (0:Int) (0:Int) (0:Int)) (0:Int) []) (25:Int))
def q1l:Rn:=q5r q2s z5e q2u q2t q77 q5q
abbrev Rp:Type:=List (Lnk)->List (Lnk)->(Bool->Prop)->Prop
def Rq:Rp:=fun a b K=>Fits a->Fits b->Cnd ((↑a.length:Int)=(↑b.length:Int)) (Lp1 (fun Qh q7u=>Fits a->CAt a Qh (fun y4=>At b Qh fun y6=>Cnd (y4.1=y6.1/\y4.2=y6.2/\y4.3=y6.3) (InI (Qh+1)/\q7u (Qh+1)) (K false)) (K true)) (0:Int)) (K false)
abbrev q4t:Type:=Rcd->Rcd->(Bool->Prop)->Prop
def z2x(R9:Rp):q4t:=fun a b K=>Cnd (a.1=b.1) (Cnd (a.2=b.2) (Cnd (a.3.1=b.3.1/\a.3.2=b.3.2/\a.3.3=b.3.3/\a.3.4=b.3.4/\a.3.5=b.3.5/\a.3.6=b.3.6/\a.3.7=b.3.7) (Cnd (a.4=b.4) (R9 a.5 b.5 fun Qa=>K Qa) (K false)) (K false)) (K false)) (K false)
def q8a:q4t:=z2x Rq
abbrev q5s:Type:=List (Lnk)->ByteArray->ByteArray->Int->(Bool->Prop)->Prop
def q5t:q5s:=fun l lo hi time K=>Lp2 (fun Qa Gh j6i=>Fits l->CAt l Gh (fun y2=>Cnd (time<y2.3) (K false) (At l Gh fun y4=>Cnd (Qa=y4.1) (At l Gh fun y6=>InI (Gh+1)/\j6i y6.2 (Gh+1)) (At l Gh fun y6=>Cnd (Qa=y6.2) (At l Gh fun y8=>InI (Gh+1)/\j6i y8.1 (Gh+1)) (K false)))) (K (decide (Qa=hi)))) lo (0:Int)
abbrev G3:Type:=Envt->ByteArray->ByteArray->(Exper->Bool->Prop)->Prop
def G4:G3:=fun v key layer K=>LpH (fun (Qa:Int×ByteArray×ByteArray×ByteArray×ByteArray×Int×List Spn×List Rng×Int×ByteArray×ByteArray×List Val×List Ex×Unit) (Ba:Int×ByteArray×ByteArray×ByteArray×ByteArray×Int×List Spn×List Rng×Int×ByteArray×ByteArray×List Val×List Ex×Unit->Prop)=>Fits v.6->CAt v.6 Qa.1 (fun y2=>Cnd (y2.1=key) (At v.6 Qa.1 fun y4=>Cnd (y4.2=layer) (At v.6 Qa.1 fun y6=>K (Exper.mk y6.1 y6.2 y6.3 y6.4 y6.5 y6.6 y6.7 (Ex.mk y6.8.1 y6.8.2 y6.8.3 y6.8.4 y6.8.5)) true) (InI (Qa.1+1)/\Ba (Qa.1+1,Qa.2.1,Qa.2.2.1,Qa.2.2.2.1,Qa.2.2.2.2.1,Qa.2.2.2.2.2.1,Qa.2.2.2.2.2.2.1,Qa.2.2.2.2.2.2.2.1,Qa.2.2.2.2.2.2.2.2.1,Qa.2.2.2.2.2.2.2.2.2.1,Qa.2.2.2.2.2.2.2.2.2.2.1,Qa.2.2.2.2.2.2.2.2.2.2.2.1,Qa.2.2.2.2.2.2.2.2.2.2.2.2.1,()))) (InI (Qa.1+1)/\Ba (Qa.1+1,Qa.2.1,Qa.2.2.1,Qa.2.2.2.1,Qa.2.2.2.2.1,Qa.2.2.2.2.2.1,Qa.2.2.2.2.2.2.1,Qa.2.2.2.2.2.2.2.1,Qa.2.2.2.2.2.2.2.2.1,Qa.2.2.2.2.2.2.2.2.2.1,Qa.2.2.2.2.2.2.2.2.2.2.1,Qa.2.2.2.2.2.2.2.2.2.2.2.1,Qa.2.2.2.2.2.2.2.2.2.2.2.2.1,()))) (K (Exper.mk (B8 []) (B8 []) (B8 []) (B8 []) (0:Int) [] [] (Ex.mk (0:Int) (B8 []) (B8 []) [] [])) false)) ((0:Int),B8 [],B8 [],B8 [],B8 [],(0:Int),[],[],(0:Int),B8 [],B8 [],[],[],())
abbrev q8b:Type:=List (Rng)->Int->(Int->Prop)->Prop
def q8c:q8b:=fun l bucket K=>Lp1 (fun Qa Ba=>Fits l->CAt l Qa (fun y2=>Cnd (y2.1<=bucket) (At l Qa fun y4=>Cnd (bucket<y4.2) (At l Qa fun y6=>K y6.3) (InI (Qa+1)/\Ba (Qa+1))) (InI (Qa+1)/\Ba (Qa+1))) (K (0:Int))) (0:Int)
abbrev q2v:Type:=Rcd->Envt->(Int->Prop)->Prop
def q9v(Jy:q1j)(q3a:q5s)(Wn:Bh)(V1:G3)(Hd:q5p)(q4x:q8b):q2v:=fun x v K=>Jy x.1 fun Qa=>Cnd (Qa=true) (Jy x.3.1 fun Qm=>Cnd (Qm=true) (Cnd (x.2<x.3.5) (K (26:Int)) (Cnd (x.3.7=0) (q3a x.5 x.1 x.3.1 x.2 fun Qh=>Cnd (Qh=true) (Wn (Envt.mk (Sett.mk v.1.1 v.1.2 v.1.3) v.2 v.3 v.4 v.5 v.6) x.3.2 fun Qd G8=>V1 (Envt.mk (Sett.mk v.1.1 v.1.2 v.1.3) v.2 v.3 v.4 v.5 v.6) x.3.3 x.3.2 fun Qc Ui=>Cnd (G8=true) (Cnd (Ui=true) (Hd Qd.3 x.3.1 fun Qt=>Cnd (x.4=Qt) (Lp2 (fun Jc q8z w6j=>Fits Qc.6->Cnd (q8z<(↑Qc.6.length:Int)) (Cnd (Jc=true) (InI (q8z+1)/\w6j true (q8z+1)) (At Qc.6 q8z fun y8=>Cnd (y8.1<=x.4) (At Qc.6 q8z fun y10=>InI (q8z+1)/\w6j (decide (x.4<y10.2)) (q8z+1)) (InI (q8z+1)/\w6j false (q8z+1)))) (Cnd (Jc=true) (Hd Qc.4 x.3.1 fun q4i=>q4x Qc.7 q4i fun Qp=>Cnd (x.3.4=Qp) (K (0:Int)) (K (23:Int))) (K (25:Int)))) false (0:Int)) (K (3:Int))) (K (11:Int))) (K (11:Int))) (K (15:Int))) (Cnd (x.3.6<=x.2) (K (26:Int)) (q3a x.5 x.1 x.3.1 x.2 fun Qh=>Cnd (Qh=true) (Wn (Envt.mk (Sett.mk v.1.1 v.1.2 v.1.3) v.2 v.3 v.4 v.5 v.6) x.3.2 fun Qd G8=>V1 (Envt.mk (Sett.mk v.1.1 v.1.2 v.1.3) v.2 v.3 v.4 v.5 v.6) x.3.3 x.3.2 fun Qc Ui=>Cnd (G8=true) (Cnd (Ui=true) (Hd Qd.3 x.3.1 fun Qt=>Cnd (x.4=Qt) (Lp2 (fun Jc q8z w6j=>Fits Qc.6->Cnd (q8z<(↑Qc.6.length:Int)) (Cnd (Jc=true) (InI (q8z+1)/\w6j true (q8z+1)) (At Qc.6 q8z fun y8=>Cnd (y8.1<=x.4) (At Qc.6 q8z fun y10=>InI (q8z+1)/\w6j (decide (x.4<y10.2)) (q8z+1)) (InI (q8z+1)/\w6j false (q8z+1)))) (Cnd (Jc=true) (Hd Qc.4 x.3.1 fun q4i=>q4x Qc.7 q4i fun Qp=>Cnd (x.3.4=Qp) (K (0:Int)) (K (23:Int))) (K (25:Int)))) false (0:Int)) (K (3:Int))) (K (11:Int))) (K (11:Int))) (K (15:Int)))))) (K (6:Int))) (K (6:Int))
def q5u:q2v:=q9v q75 q5t q2u G4 q5q q8c
abbrev q0r:Type:=AEnv->Reg->Rcd->ByteArray->ByteArray->Int->(Bool->Prop)->Prop
def q0s(q14:Rl)(Jz:Z1)(Zz:Jw)(q15:Rn)(q8s:q4t)(Z9:Vj)(q6h:q2v):q0r:=fun x r z id layer time K=>q14 fun Qa=>Cnd (Qa=true) (Fits r.2->Cnd ((70:Int)<(↑r.2.length:Int)) (K true) (Fits r.3->Cnd ((140:Int)<(↑r.3.length:Int)) (K true) (Fits z.5->Cnd ((60:Int)<(↑z.5.length:Int)) (K true) (Jz x fun Qc=>Zz r (Envt.mk (Sett.mk Qc.1.1 Qc.1.2 Qc.1.3) Qc.2 Qc.3 Qc.4 Qc.5 Qc.6) id layer time fun Qt q9i=>q15 r (Envt.mk (Sett.mk Qc.1.1 Qc.1.2 Qc.1.3) Qc.2 Qc.3 Qc.4 Qc.5 Qc.6) id layer time fun Jc q8z=>Cnd (q9i=q8z) (q8s (Rcd.mk Qt.1 Qt.2 (Slt.mk Qt.3.1 Qt.3.2 Qt.3.3 Qt.3.4 Qt.3.5 Qt.3.6 Qt.3.7) Qt.4 Qt.5) (Rcd.mk Jc.1 Jc.2 (Slt.mk Jc.3.1 Jc.3.2 Jc.3.3 Jc.3.4 Jc.3.5 Jc.3.6 Jc.3.7) Jc.4 Jc.5) fun Hr=>Cnd (Hr=true) (Z9 (Rcd.mk z.1 z.2 (Slt.mk z.3.1 z.3.2 z.3.3 z.3.4 z.3.5 z.3.6 z.3.7) z.4 z.5) (Envt.mk (Sett.mk Qc.1.1 Qc.1.2 Qc.1.3) Qc.2 Qc.3 Qc.4 Qc.5 Qc.6) fun q4i=>q6h (Rcd.mk z.1 z.2 (Slt.mk z.3.1 z.3.2 z.3.3 z.3.4 z.3.5 z.3.6 z.3.7) z.4 z.5) (Envt.mk (Sett.mk Qc.1.1 Qc.1.2 Qc.1.3) Qc.2 Qc.3 Qc.4 Qc.5 Qc.6) fun Qp=>K (decide (q4i=Qp))) (K false)) (K false))))) (K false)
def Jg:q0r:=q0s q1g Jx Us q1l q8a Rk q5u
abbrev j3p:Type:=Subj->ByteArray->(Ctxt->Bool->Prop)->Prop
def z6o:j3p:=fun s kind K=>Lp4 (fun Qa Gh z9a (z9b:List Attr) v4i=>Fits s.1->CAt s.1 Qa (fun y2=>Cnd (y2.1=kind) (At s.1 Qa fun y4=>K y4 true) (InI (Qa+1)/\v4i (Qa+1) Gh z9a z9b)) (K (Ctxt.mk (B8 []) (B8 []) []) false)) (0:Int) (B8 []) (B8 []) []
abbrev q9w:Type:=Subj->ByteArray->ByteArray->(Val->Bool->Prop)->Prop
def z6p(w33:j3p):q9w:=fun s kind name K=>w33 (Subj.mk s.1) kind fun Qa Gh=>Cnd (Gh=true) (Cnd (name=B8 [107,101,121]) (K (Val.mk (3:Int) (0:Int) Qa.2 []) true) (Lp5 (fun Qm q1s z8f v0f (v2m:List ByteArray) v3x=>Fits Qa.3->CAt Qa.3 Qm (fun y3=>Cnd (y3.1=name) (At Qa.3 Qm fun y5=>K (Val.mk y5.2.1 y5.2.2 y5.2.3 y5.2.4) true) (InI (Qm+1)/\v3x (Qm+1) q1s z8f v0f v2m)) (K (Val.mk (0:Int) (0:Int) (B8 []) []) false)) (0:Int) (0:Int) (0:Int) (B8 []) [])) (K (Val.mk (0:Int) (0:Int) (B8 []) []) false)
def q9x:q9w:=z6p z6o
abbrev z6q:Type:=Int->(Bool->Prop)->Prop
def q9y:z6q:=fun op K=>Cnd ((6:Int)<=op) (K (decide (op<=15))) (K false)
abbrev j3q:Type:=List (ByteArray)->List (ByteArray)->(Bool->Prop)->Prop
def z6r:j3q:=fun a b K=>Fits a->Fits b->Cnd ((↑a.length:Int)=(↑b.length:Int)) (Lp1 (fun Qh q7u=>Fits a->CAt a Qh (fun y4=>At b Qh fun y6=>Cnd (y4=y6) (InI (Qh+1)/\q7u (Qh+1)) (K false)) (K true)) (0:Int)) (K false)
abbrev z2y:Type:=Val->Val->(Bool->Prop)->Prop
def z9u(w34:j3q):z2y:=fun a b K=>Cnd (a.1=b.1) (Cnd (a.2=b.2) (Cnd (a.3=b.3) (w34 a.4 b.4 fun Qa=>K Qa) (K false)) (K false)) (K false)
def q8d:z2y:=z9u z6r
abbrev q69:Type:=ByteArray->ByteArray->Int->(Bool->Prop)->Prop
def q3k:q69:=fun s t i K=>Cnd ((0:Int)<=i) (InI (i+(↑t.size:Int))/\Cnd (i+(↑t.size:Int)<=(↑s.size:Int)) (InI (i+(↑t.size:Int))/\((0:Int)<=i/\i<=i+(↑t.size:Int)/\i+(↑t.size:Int)<=(↑s.size:Int))/\K (decide (s.extract i.toNat (i+(↑t.size:Int)).toNat=t))) (K false)) (K false)
abbrev q36:Type:=Val->Val->(Bool->Prop)->Prop
def q87(Z0:By)(q3u:q69):q36:=fun v w K=>Cnd (w.1=3) (Cnd (v.1=5) (Z0 v.4 w.3 fun Qa=>K Qa) (Lp1 (fun Qa Ba=>Cnd (v.1=3) (InI (Qa+(↑w.3.size:Int))/\Cnd (Qa+(↑w.3.size:Int)<=(↑v.3.size:Int)) (q3u v.3 w.3 Qa fun Qm=>Cnd (Qm=true) (K true) (InI (Qa+1)/\Ba (Qa+1))) (K false)) (K false)) (0:Int))) (K false)
def q37:q36:=q87 q3i q3k
abbrev z9v:Type:=Val->(Bool->Prop)->Prop
def z2z:z9v:=fun v K=>Cnd (v.1=1) (Cnd (v.1=3) (Cnd (v.1=5) (K true) (Fits v.4->K (decide ((↑v.4.length:Int)=0)))) (Cnd (v.1=4) (Cnd (v.1=5) (K true) (Fits v.4->K (decide ((↑v.4.length:Int)=0)))) (Cnd (v.3=B8 []) (Cnd (v.1=5) (K true) (Fits v.4->K (decide ((↑v.4.length:Int)=0)))) (K false)))) (Cnd (v.1=3) (Cnd (v.1=2) (Cnd (v.1=5) (K true) (Fits v.4->K (decide ((↑v.4.length:Int)=0)))) (Cnd (v.2=0) (Cnd (v.1=5) (K true) (Fits v.4->K (decide ((↑v.4.length:Int)=0)))) (K false))) (Cnd (v.1=2) (Cnd (v.1=4) (Cnd (v.1=5) (K true) (Fits v.4->K (decide ((↑v.4.length:Int)=0)))) (Cnd (v.3=B8 []) (Cnd (v.1=5) (K true) (Fits v.4->K (decide ((↑v.4.length:Int)=0)))) (K false))) (Cnd (v.2=0) (Cnd (v.1=4) (Cnd (v.1=5) (K true) (Fits v.4->K (decide ((↑v.4.length:Int)=0)))) (Cnd (v.3=B8 []) (Cnd (v.1=5) (K true) (Fits v.4->K (decide ((↑v.4.length:Int)=0)))) (K false))) (K false))))
abbrev q8e:Type:=ByteArray->(Bool->Prop)->Prop
def z9w(Jd:Ua):q8e:=fun s K=>Cnd ((200:Int)<(↑s.size:Int)) (K false) (Jd s fun Qa=>Cnd (Qa=true) (Lp1 (fun Qm q6e=>Cnd (Qm<(↑s.size:Int)) (((0:Int)<=Qm/\Qm<(↑s.size:Int))/\ ∀b2,s[Qm.toNat]? =some b2->Cnd ((↑b2.toNat:Int)<32) (K false) (((0:Int)<=Qm/\Qm<(↑s.size:Int))/\ ∀b4,s[Qm.toNat]? =some b4->Cnd ((↑b4.toNat:Int)=127) (K false) (InI (Qm+1)/\q6e (Qm+1)))) (K true)) (0:Int)) (K false))
def q8f:q8e:=z9w Wc
abbrev q6l:Type:=ByteArray->(Int->Int->Prop)->Prop
def G5:q6l:=fun s K=>Jn1 (fun Qa=>Lp1 (fun Qm q6e=>Cnd (Qm<(↑Qa.size:Int)) (((0:Int)<=Qm/\Qm<(↑Qa.size:Int))/\ ∀b2,Qa[Qm.toNat]? =some b2->Cnd ((↑b2.toNat:Int)<48) (K (0:Int) (1:Int)) (((0:Int)<=Qm/\Qm<(↑Qa.size:Int))/\ ∀b4,Qa[Qm.toNat]? =some b4->Cnd ((57:Int)<(↑b4.toNat:Int)) (K (0:Int) (1:Int)) (InI (Qm+1)/\q6e (Qm+1)))) (Cnd (Qa=B8 []) (K (0:Int) (1:Int)) (((0:Int)<=(0:Int)/\(0:Int)<(↑Qa.size:Int))/\ ∀b2,Qa[Int.toNat (0:Int)]? =some b2->Cnd ((↑b2.toNat:Int)=48) (Cnd (s=B8 [48]) (Cnd ((13:Int)<(↑Qa.size:Int)) (K (0:Int) (3:Int)) (Lp2 (fun Qc Ui j75=>Cnd (Ui<(↑Qa.size:Int)) (InI ((10:Int)*Qc)/\((0:Int)<=Ui/\Ui<(↑Qa.size:Int))/\ ∀b5,Qa[Ui.toNat]? =some b5->InI (Go.IntKind.u8.wrap ((↑b5.toNat:Int) - 48))/\InI ((10:Int)*Qc+Go.IntKind.u8.wrap ((↑b5.toNat:Int) - 48))/\InI (Ui+1)/\j75 ((10:Int)*Qc+Go.IntKind.u8.wrap ((↑b5.toNat:Int) - 48)) (Ui+1)) (Cnd ((1099511627776:Int)<Qc) (K (0:Int) (3:Int)) (Cnd ((↑Qa.size:Int)<(↑s.size:Int)) (InI ((0:Int) - Qc)/\K ((0:Int) - Qc) (0:Int)) (K Qc (0:Int))))) (0:Int) (0:Int))) (K (0:Int) (1:Int))) (Cnd ((13:Int)<(↑Qa.size:Int)) (K (0:Int) (3:Int)) (Lp2 (fun Qc Ui j75=>Cnd (Ui<(↑Qa.size:Int)) (InI ((10:Int)*Qc)/\((0:Int)<=Ui/\Ui<(↑Qa.size:Int))/\ ∀b5,Qa[Ui.toNat]? =some b5->InI (Go.IntKind.u8.wrap ((↑b5.toNat:Int) - 48))/\InI ((10:Int)*Qc+Go.IntKind.u8.wrap ((↑b5.toNat:Int) - 48))/\InI (Ui+1)/\j75 ((10:Int)*Qc+Go.IntKind.u8.wrap ((↑b5.toNat:Int) - 48)) (Ui+1)) (Cnd ((1099511627776:Int)<Qc) (K (0:Int) (3:Int)) (Cnd ((↑Qa.size:Int)<(↑s.size:Int)) (InI ((0:Int) - Qc)/\K ((0:Int) - Qc) (0:Int)) (K Qc (0:Int))))) (0:Int) (0:Int)))))) (0:Int)) fun z0g=>Cnd ((0:Int)<(↑s.size:Int)) (((0:Int)<=(0:Int)/\(0:Int)<(↑s.size:Int))/\ ∀b1,s[Int.toNat (0:Int)]? =some b1->Cnd ((↑b1.toNat:Int)=45) (((0:Int)<=(1:Int)/\(1:Int)<=(↑s.size:Int)/\(↑s.size:Int)<=(↑s.size:Int))/\z0g (s.extract (Int.toNat (1:Int)) (↑s.size:Int).toNat)) (z0g s)) (z0g s)
abbrev q8g:Type:=ByteArray->(A3->Bool->Prop)->Prop
def z9x(q6t:q6l):q8g:=fun s K=>LpH (fun (Qa:Int×Int×Int×Int×Int×Int×Int×Int×Unit) Ba=>Cnd (Qa.2.1<3) (Lp1 (fun Qm q6e=>Cnd (Qm<(↑s.size:Int)) (((0:Int)<=Qm/\Qm<(↑s.size:Int))/\ ∀b2,s[Qm.toNat]? =some b2->Cnd ((↑b2.toNat:Int)=46) (((0:Int)<=Qa.1/\Qa.1<=Qm/\Qm<=(↑s.size:Int))/\q6t (s.extract Qa.1.toNat Qm.toNat) fun Qc Ui=>Cnd (Ui=0) (Cnd (Qc<0) (K ((0:Int),(0:Int),(0:Int)) false) (Cnd ((999999:Int)<Qc) (K ((0:Int),(0:Int),(0:Int)) false) (Cnd (decide (Qa.2.1<2)=decide (Qm<(↑s.size:Int))) (((0:Int)<=Qa.2.1/\Qa.2.1<(↑(3:Nat):Int))/\((True/\(Qa.2.1=(↑(nat_lit 0):Int)->InI (Qm+1)/\InI (Qa.2.1+1)/\Ba (Qm+1,Qa.2.1+1,Qc,Qa.2.2.2.1,Qa.2.2.2.2.1,Qa.2.2.2.2.2.1,Qa.2.2.2.2.2.2.1,Qa.2.2.2.2.2.2.2.1,())))/\(Qa.2.1=(↑(nat_lit 1):Int)->InI (Qm+1)/\InI (Qa.2.1+1)/\Ba (Qm+1,Qa.2.1+1,Qa.2.2.1,Qc,Qa.2.2.2.2.1,Qa.2.2.2.2.2.1,Qa.2.2.2.2.2.2.1,Qa.2.2.2.2.2.2.2.1,())))/\(Qa.2.1=(↑(nat_lit 2):Int)->InI (Qm+1)/\InI (Qa.2.1+1)/\Ba (Qm+1,Qa.2.1+1,Qa.2.2.1,Qa.2.2.2.1,Qc,Qa.2.2.2.2.2.1,Qa.2.2.2.2.2.2.1,Qa.2.2.2.2.2.2.2.1,()))) (K ((0:Int),(0:Int),(0:Int)) false)))) (K ((0:Int),(0:Int),(0:Int)) false)) (InI (Qm+1)/\q6e (Qm+1))) (((0:Int)<=Qa.1/\Qa.1<=Qm/\Qm<=(↑s.size:Int))/\q6t (s.extract Qa.1.toNat Qm.toNat) fun Qh Gi=>Cnd (Gi=0) (Cnd (Qh<0) (K ((0:Int),(0:Int),(0:Int)) false) (Cnd ((999999:Int)<Qh) (K ((0:Int),(0:Int),(0:Int)) false) (Cnd (decide (Qa.2.1<2)=decide (Qm<(↑s.size:Int))) (((0:Int)<=Qa.2.1/\Qa.2.1<(↑(3:Nat):Int))/\((True/\(Qa.2.1=(↑(nat_lit 0):Int)->InI (Qm+1)/\InI (Qa.2.1+1)/\Ba (Qm+1,Qa.2.1+1,Qh,Qa.2.2.2.1,Qa.2.2.2.2.1,Qa.2.2.2.2.2.1,Qa.2.2.2.2.2.2.1,Qa.2.2.2.2.2.2.2.1,())))/\(Qa.2.1=(↑(nat_lit 1):Int)->InI (Qm+1)/\InI (Qa.2.1+1)/\Ba (Qm+1,Qa.2.1+1,Qa.2.2.1,Qh,Qa.2.2.2.2.1,Qa.2.2.2.2.2.1,Qa.2.2.2.2.2.2.1,Qa.2.2.2.2.2.2.2.1,())))/\(Qa.2.1=(↑(nat_lit 2):Int)->InI (Qm+1)/\InI (Qa.2.1+1)/\Ba (Qm+1,Qa.2.1+1,Qa.2.2.1,Qa.2.2.2.1,Qh,Qa.2.2.2.2.2.1,Qa.2.2.2.2.2.2.1,Qa.2.2.2.2.2.2.2.1,()))) (K ((0:Int),(0:Int),(0:Int)) false)))) (K ((0:Int),(0:Int),(0:Int)) false))) Qa.1) (K (Qa.2.2.1,Qa.2.2.2.1,Qa.2.2.2.2.1) true)) ((0:Int),(0:Int),(0:Int),(0:Int),(0:Int),(0:Int),(0:Int),(0:Int),())
def q8h:q8g:=z9x G5
abbrev z6s:Type:=List (ByteArray)->(Int->Prop)->Prop
def j3r(z3s:q8e):z6s:=fun l K=>Fits l->Cnd ((20:Int)<(↑l.length:Int)) (K (5:Int)) (Lp1 (fun Qm q6e=>Fits l->CAt l Qm (fun y3=>z3s y3 fun Qt=>Cnd (Qt=true) (InI (Qm+1)/\q6e (Qm+1)) (K (2:Int))) (Lp1 (fun Qd q80=>Fits l->CAt l Qd (fun y5=>InI (Qd - 1)/\((0:Int)<=Qd - 1/\Qd - 1<(↑l.length:Int))/\ ∀y7,l[(Qd - 1).toNat]? =some y7->Cnd (Lk.blt y7 y5) (InI (Qd+1)/\q80 (Qd+1)) (K (9:Int))) (K (0:Int))) (1:Int))) (0:Int))
def z6t:z6s:=j3r q8f
abbrev z22:Type:=Val->(Int->Prop)->Prop
def z9y(j9i:z9v)(z3s:q8e)(q8t:q8g)(w35:z6s):z22:=fun v K=>Cnd (v.1<1) (K (7:Int)) (Cnd ((5:Int)<v.1) (K (7:Int)) (j9i v fun Qa=>Cnd (Qa=true) (Cnd (v.1=1) (Cnd (v.2=0) (K (0:Int)) (Cnd (v.2=1) (K (0:Int)) (K (3:Int)))) (Cnd (v.1=2) (Cnd (v.2<(-1099511627776:Int)) (K (3:Int)) (Cnd ((1099511627776:Int)<v.2) (K (3:Int)) (K (0:Int)))) (Cnd (v.1=3) (z3s v.3 fun Qm=>Cnd (Qm=true) (K (0:Int)) (K (2:Int))) (Cnd (v.1=4) (q8t v.3 fun (_:Int×Int×Int) q1s=>Cnd (q1s=true) (K (0:Int)) (K (1:Int))) (Cnd (v.1=5) (w35 v.4 fun Qm=>K Qm) (K (0:Int))))))) (K (15:Int))))
def z23:z22:=z9y z2z q8f q8h z6t
abbrev j3s:Type:=Bool->Bool->(Int->Prop)->Prop
def q7a:j3s:=fun less greater K=>Cnd (less=true) (K (-1:Int)) (Cnd (greater=true) (K (1:Int)) (K (0:Int)))
abbrev q7b:Type:=Val->Val->(Int->Int->Prop)->Prop
def z3w(j0c:z22)(Qb:j3s)(q8t:q8g):q7b:=fun a b K=>j0c a fun Qa=>Cnd (Qa=0) (j0c b fun Qm=>Cnd (Qm=0) (Cnd (a.1=b.1) (Cnd (a.1=1) (K (0:Int) (8:Int)) (Cnd (a.1=5) (K (0:Int) (8:Int)) (Cnd (a.1=2) (Qb (decide (a.2<b.2)) (decide (b.2<a.2)) fun Qh=>K Qh (0:Int)) (Cnd (a.1=3) (Qb (decide (Lk.blt a.3 b.3)) (decide (Lk.blt b.3 a.3)) fun Qh=>K Qh (0:Int)) (q8t a.3 fun (Qh:Int×Int×Int) _=>q8t b.3 fun (Qd:Int×Int×Int) _=>Lp1 (fun Qc j6j=>Cnd (Qc<3) (((0:Int)<=Qc/\Qc<(↑(3:Nat):Int))/\((True/\(Qc=(↑(nat_lit 0):Int)->((0:Int)<=Qc/\Qc<(↑(3:Nat):Int))/\((True/\(Qc=(↑(nat_lit 0):Int)->Cnd (Qh.1=Qd.1) (InI (Qc+1)/\j6j (Qc+1)) (((0:Int)<=Qc/\Qc<(↑(3:Nat):Int))/\((True/\(Qc=(↑(nat_lit 0):Int)->((0:Int)<=Qc/\Qc<(↑(3:Nat):Int))/\((True/\(Qc=(↑(nat_lit 0):Int)->Qb (decide (Qh.1<Qd.1)) true fun Qp=>K Qp (0:Int)))/\(Qc=(↑(nat_lit 1):Int)->Qb (decide (Qh.1<Qd.2.1)) true fun Qp=>K Qp (0:Int)))/\(Qc=(↑(nat_lit 2):Int)->Qb (decide (Qh.1<Qd.2.2)) true fun Qp=>K Qp (0:Int))))/\(Qc=(↑(nat_lit 1):Int)->((0:Int)<=Qc/\Qc<(↑(3:Nat):Int))/\((True/\(Qc=(↑(nat_lit 0):Int)->Qb (decide (Qh.2.1<Qd.1)) true fun Qp=>K Qp (0:Int)))/\(Qc=(↑(nat_lit 1):Int)->Qb (decide (Qh.2.1<Qd.2.1)) true fun Qp=>K Qp (0:Int)))/\(Qc=(↑(nat_lit 2):Int)->Qb (decide (Qh.2.1<Qd.2.2)) true fun Qp=>K Qp (0:Int))))/\(Qc=(↑(nat_lit 2):Int)->((0:Int)<=Qc/\Qc<(↑(3:Nat):Int))/\((True/\(Qc=(↑(nat_lit 0):Int)->Qb (decide (Qh.2.2<Qd.1)) true fun Qp=>K Qp (0:Int)))/\(Qc=(↑(nat_lit 1):Int)->Qb (decide (Qh.2.2<Qd.2.1)) true fun Qp=>K Qp (0:Int)))/\(Qc=(↑(nat_lit 2):Int)->Qb (decide (Qh.2.2<Qd.2.2)) true fun Qp=>K Qp (0:Int))))))/\(Qc=(↑(nat_lit 1):Int)->Cnd (Qh.1=Qd.2.1) (InI (Qc+1)/\j6j (Qc+1)) (((0:Int)<=Qc/\Qc<(↑(3:Nat):Int))/\((True/\(Qc=(↑(nat_lit 0):Int)->((0:Int)<=Qc/\Qc<(↑(3:Nat):Int))/\((True/\(Qc=(↑(nat_lit 0):Int)->Qb (decide (Qh.1<Qd.1)) true fun Qp=>K Qp (0:Int)))/\(Qc=(↑(nat_lit 1):Int)->Qb (decide (Qh.1<Qd.2.1)) true fun Qp=>K Qp (0:Int)))/\(Qc=(↑(nat_lit 2):Int)->Qb (decide (Qh.1<Qd.2.2)) true fun Qp=>K Qp (0:Int))))/\(Qc=(↑(nat_lit 1):Int)->((0:Int)<=Qc/\Qc<(↑(3:Nat):Int))/\((True/\(Qc=(↑(nat_lit 0):Int)->Qb (decide (Qh.2.1<Qd.1)) true fun Qp=>K Qp (0:Int)))/\(Qc=(↑(nat_lit 1):Int)->Qb (decide (Qh.2.1<Qd.2.1)) true fun Qp=>K Qp (0:Int)))/\(Qc=(↑(nat_lit 2):Int)->Qb (decide (Qh.2.1<Qd.2.2)) true fun Qp=>K Qp (0:Int))))/\(Qc=(↑(nat_lit 2):Int)->((0:Int)<=Qc/\Qc<(↑(3:Nat):Int))/\((True/\(Qc=(↑(nat_lit 0):Int)->Qb (decide (Qh.2.2<Qd.1)) true fun Qp=>K Qp (0:Int)))/\(Qc=(↑(nat_lit 1):Int)->Qb (decide (Qh.2.2<Qd.2.1)) true fun Qp=>K Qp (0:Int)))/\(Qc=(↑(nat_lit 2):Int)->Qb (decide (Qh.2.2<Qd.2.2)) true fun Qp=>K Qp (0:Int))))))/\(Qc=(↑(nat_lit 2):Int)->Cnd (Qh.1=Qd.2.2) (InI (Qc+1)/\j6j (Qc+1)) (((0:Int)<=Qc/\Qc<(↑(3:Nat):Int))/\((True/\(Qc=(↑(nat_lit 0):Int)->((0:Int)<=Qc/\Qc<(↑(3:Nat):Int))/\((True/\(Qc=(↑(nat_lit 0):Int)->Qb (decide (Qh.1<Qd.1)) true fun Qp=>K Qp (0:Int)))/\(Qc=(↑(nat_lit 1):Int)->Qb (decide (Qh.1<Qd.2.1)) true fun Qp=>K Qp (0:Int)))/\(Qc=(↑(nat_lit 2):Int)->Qb (decide (Qh.1<Qd.2.2)) true fun Qp=>K Qp (0:Int))))/\(Qc=(↑(nat_lit 1):Int)->((0:Int)<=Qc/\Qc<(↑(3:Nat):Int))/\((True/\(Qc=(↑(nat_lit 0):Int)->Qb (decide (Qh.2.1<Qd.1)) true fun Qp=>K Qp (0:Int)))/\(Qc=(↑(nat_lit 1):Int)->Qb (decide (Qh.2.1<Qd.2.1)) true fun Qp=>K Qp (0:Int)))/\(Qc=(↑(nat_lit 2):Int)->Qb (decide (Qh.2.1<Qd.2.2)) true fun Qp=>K Qp (0:Int))))/\(Qc=(↑(nat_lit 2):Int)->((0:Int)<=Qc/\Qc<(↑(3:Nat):Int))/\((True/\(Qc=(↑(nat_lit 0):Int)->Qb (decide (Qh.2.2<Qd.1)) true fun Qp=>K Qp (0:Int)))/\(Qc=(↑(nat_lit 1):Int)->Qb (decide (Qh.2.2<Qd.2.1)) true fun Qp=>K Qp (0:Int)))/\(Qc=(↑(nat_lit 2):Int)->Qb (decide (Qh.2.2<Qd.2.2)) true fun Qp=>K Qp (0:Int)))))))/\(Qc=(↑(nat_lit 1):Int)->((0:Int)<=Qc/\Qc<(↑(3:Nat):Int))/\((True/\(Qc=(↑(nat_lit 0):Int)->Cnd (Qh.2.1=Qd.1) (InI (Qc+1)/\j6j (Qc+1)) (((0:Int)<=Qc/\Qc<(↑(3:Nat):Int))/\((True/\(Qc=(↑(nat_lit 0):Int)->((0:Int)<=Qc/\Qc<(↑(3:Nat):Int))/\((True/\(Qc=(↑(nat_lit 0):Int)->Qb (decide (Qh.1<Qd.1)) true fun Qp=>K Qp (0:Int)))/\(Qc=(↑(nat_lit 1):Int)->Qb (decide (Qh.1<Qd.2.1)) true fun Qp=>K Qp (0:Int)))/\(Qc=(↑(nat_lit 2):Int)->Qb (decide (Qh.1<Qd.2.2)) true fun Qp=>K Qp (0:Int))))/\(Qc=(↑(nat_lit 1):Int)->((0:Int)<=Qc/\Qc<(↑(3:Nat):Int))/\((True/\(Qc=(↑(nat_lit 0):Int)->Qb (decide (Qh.2.1<Qd.1)) true fun Qp=>K Qp (0:Int)))/\(Qc=(↑(nat_lit 1):Int)->Qb (decide (Qh.2.1<Qd.2.1)) true fun Qp=>K Qp (0:Int)))/\(Qc=(↑(nat_lit 2):Int)->Qb (decide (Qh.2.1<Qd.2.2)) true fun Qp=>K Qp (0:Int))))/\(Qc=(↑(nat_lit 2):Int)->((0:Int)<=Qc/\Qc<(↑(3:Nat):Int))/\((True/\(Qc=(↑(nat_lit 0):Int)->Qb (decide (Qh.2.2<Qd.1)) true fun Qp=>K Qp (0:Int)))/\(Qc=(↑(nat_lit 1):Int)->Qb (decide (Qh.2.2<Qd.2.1)) true fun Qp=>K Qp (0:Int)))/\(Qc=(↑(nat_lit 2):Int)->Qb (decide (Qh.2.2<Qd.2.2)) true fun Qp=>K Qp (0:Int))))))/\(Qc=(↑(nat_lit 1):Int)->Cnd (Qh.2.1=Qd.2.1) (InI (Qc+1)/\j6j (Qc+1)) (((0:Int)<=Qc/\Qc<(↑(3:Nat):Int))/\((True/\(Qc=(↑(nat_lit 0):Int)->((0:Int)<=Qc/\Qc<(↑(3:Nat):Int))/\((True/\(Qc=(↑(nat_lit 0):Int)->Qb (decide (Qh.1<Qd.1)) true fun Qp=>K Qp (0:Int)))/\(Qc=(↑(nat_lit 1):Int)->Qb (decide (Qh.1<Qd.2.1)) true fun Qp=>K Qp (0:Int)))/\(Qc=(↑(nat_lit 2):Int)->Qb (decide (Qh.1<Qd.2.2)) true fun Qp=>K Qp (0:Int))))/\(Qc=(↑(nat_lit 1):Int)->((0:Int)<=Qc/\Qc<(↑(3:Nat):Int))/\((True/\(Qc=(↑(nat_lit 0):Int)->Qb (decide (Qh.2.1<Qd.1)) true fun Qp=>K Qp (0:Int)))/\(Qc=(↑(nat_lit 1):Int)->Qb (decide (Qh.2.1<Qd.2.1)) true fun Qp=>K Qp (0:Int)))/\(Qc=(↑(nat_lit 2):Int)->Qb (decide (Qh.2.1<Qd.2.2)) true fun Qp=>K Qp (0:Int))))/\(Qc=(↑(nat_lit 2):Int)->((0:Int)<=Qc/\Qc<(↑(3:Nat):Int))/\((True/\(Qc=(↑(nat_lit 0):Int)->Qb (decide (Qh.2.2<Qd.1)) true fun Qp=>K Qp (0:Int)))/\(Qc=(↑(nat_lit 1):Int)->Qb (decide (Qh.2.2<Qd.2.1)) true fun Qp=>K Qp (0:Int)))/\(Qc=(↑(nat_lit 2):Int)->Qb (decide (Qh.2.2<Qd.2.2)) true fun Qp=>K Qp (0:Int))))))/\(Qc=(↑(nat_lit 2):Int)->Cnd (Qh.2.1=Qd.2.2) (InI (Qc+1)/\j6j (Qc+1)) (((0:Int)<=Qc/\Qc<(↑(3:Nat):Int))/\((True/\(Qc=(↑(nat_lit 0):Int)->((0:Int)<=Qc/\Qc<(↑(3:Nat):Int))/\((True/\(Qc=(↑(nat_lit 0):Int)->Qb (decide (Qh.1<Qd.1)) true fun Qp=>K Qp (0:Int)))/\(Qc=(↑(nat_lit 1):Int)->Qb (decide (Qh.1<Qd.2.1)) true fun Qp=>K Qp (0:Int)))/\(Qc=(↑(nat_lit 2):Int)->Qb (decide (Qh.1<Qd.2.2)) true fun Qp=>K Qp (0:Int))))/\(Qc=(↑(nat_lit 1):Int)->((0:Int)<=Qc/\Qc<(↑(3:Nat):Int))/\((True/\(Qc=(↑(nat_lit 0):Int)->Qb (decide (Qh.2.1<Qd.1)) true fun Qp=>K Qp (0:Int)))/\(Qc=(↑(nat_lit 1):Int)->Qb (decide (Qh.2.1<Qd.2.1)) true fun Qp=>K Qp (0:Int)))/\(Qc=(↑(nat_lit 2):Int)->Qb (decide (Qh.2.1<Qd.2.2)) true fun Qp=>K Qp (0:Int))))/\(Qc=(↑(nat_lit 2):Int)->((0:Int)<=Qc/\Qc<(↑(3:Nat):Int))/\((True/\(Qc=(↑(nat_lit 0):Int)->Qb (decide (Qh.2.2<Qd.1)) true fun Qp=>K Qp (0:Int)))/\(Qc=(↑(nat_lit 1):Int)->Qb (decide (Qh.2.2<Qd.2.1)) true fun Qp=>K Qp (0:Int)))/\(Qc=(↑(nat_lit 2):Int)->Qb (decide (Qh.2.2<Qd.2.2)) true fun Qp=>K Qp (0:Int)))))))/\(Qc=(↑(nat_lit 2):Int)->((0:Int)<=Qc/\Qc<(↑(3:Nat):Int))/\((True/\(Qc=(↑(nat_lit 0):Int)->Cnd (Qh.2.2=Qd.1) (InI (Qc+1)/\j6j (Qc+1)) (((0:Int)<=Qc/\Qc<(↑(3:Nat):Int))/\((True/\(Qc=(↑(nat_lit 0):Int)->((0:Int)<=Qc/\Qc<(↑(3:Nat):Int))/\((True/\(Qc=(↑(nat_lit 0):Int)->Qb (decide (Qh.1<Qd.1)) true fun Qp=>K Qp (0:Int)))/\(Qc=(↑(nat_lit 1):Int)->Qb (decide (Qh.1<Qd.2.1)) true fun Qp=>K Qp (0:Int)))/\(Qc=(↑(nat_lit 2):Int)->Qb (decide (Qh.1<Qd.2.2)) true fun Qp=>K Qp (0:Int))))/\(Qc=(↑(nat_lit 1):Int)->((0:Int)<=Qc/\Qc<(↑(3:Nat):Int))/\((True/\(Qc=(↑(nat_lit 0):Int)->Qb (decide (Qh.2.1<Qd.1)) true fun Qp=>K Qp (0:Int)))/\(Qc=(↑(nat_lit 1):Int)->Qb (decide (Qh.2.1<Qd.2.1)) true fun Qp=>K Qp (0:Int)))/\(Qc=(↑(nat_lit 2):Int)->Qb (decide (Qh.2.1<Qd.2.2)) true fun Qp=>K Qp (0:Int))))/\(Qc=(↑(nat_lit 2):Int)->((0:Int)<=Qc/\Qc<(↑(3:Nat):Int))/\((True/\(Qc=(↑(nat_lit 0):Int)->Qb (decide (Qh.2.2<Qd.1)) true fun Qp=>K Qp (0:Int)))/\(Qc=(↑(nat_lit 1):Int)->Qb (decide (Qh.2.2<Qd.2.1)) true fun Qp=>K Qp (0:Int)))/\(Qc=(↑(nat_lit 2):Int)->Qb (decide (Qh.2.2<Qd.2.2)) true fun Qp=>K Qp (0:Int))))))/\(Qc=(↑(nat_lit 1):Int)->Cnd (Qh.2.2=Qd.2.1) (InI (Qc+1)/\j6j (Qc+1)) (((0:Int)<=Qc/\Qc<(↑(3:Nat):Int))/\((True/\(Qc=(↑(nat_lit 0):Int)->((0:Int)<=Qc/\Qc<(↑(3:Nat):Int))/\((True/\(Qc=(↑(nat_lit 0):Int)->Qb (decide (Qh.1<Qd.1)) true fun Qp=>K Qp (0:Int)))/\(Qc=(↑(nat_lit 1):Int)->Qb (decide (Qh.1<Qd.2.1)) true fun Qp=>K Qp (0:Int)))/\(Qc=(↑(nat_lit 2):Int)->Qb (decide (Qh.1<Qd.2.2)) true fun Qp=>K Qp (0:Int))))/\(Qc=(↑(nat_lit 1):Int)->((0:Int)<=Qc/\Qc<(↑(3:Nat):Int))/\((True/\(Qc=(↑(nat_lit 0):Int)->Qb (decide (Qh.2.1<Qd.1)) true fun Qp=>K Qp (0:Int)))/\(Qc=(↑(nat_lit 1):Int)->Qb (decide (Qh.2.1<Qd.2.1)) true fun Qp=>K Qp (0:Int)))/\(Qc=(↑(nat_lit 2):Int)->Qb (decide (Qh.2.1<Qd.2.2)) true fun Qp=>K Qp (0:Int))))/\(Qc=(↑(nat_lit 2):Int)->((0:Int)<=Qc/\Qc<(↑(3:Nat):Int))/\((True/\(Qc=(↑(nat_lit 0):Int)->Qb (decide (Qh.2.2<Qd.1)) true fun Qp=>K Qp (0:Int)))/\(Qc=(↑(nat_lit 1):Int)->Qb (decide (Qh.2.2<Qd.2.1)) true fun Qp=>K Qp (0:Int)))/\(Qc=(↑(nat_lit 2):Int)->Qb (decide (Qh.2.2<Qd.2.2)) true fun Qp=>K Qp (0:Int))))))/\(Qc=(↑(nat_lit 2):Int)->Cnd (Qh.2.2=Qd.2.2) (InI (Qc+1)/\j6j (Qc+1)) (((0:Int)<=Qc/\Qc<(↑(3:Nat):Int))/\((True/\(Qc=(↑(nat_lit 0):Int)->((0:Int)<=Qc/\Qc<(↑(3:Nat):Int))/\((True/\(Qc=(↑(nat_lit 0):Int)->Qb (decide (Qh.1<Qd.1)) true fun Qp=>K Qp (0:Int)))/\(Qc=(↑(nat_lit 1):Int)->Qb (decide (Qh.1<Qd.2.1)) true fun Qp=>K Qp (0:Int)))/\(Qc=(↑(nat_lit 2):Int)->Qb (decide (Qh.1<Qd.2.2)) true fun Qp=>K Qp (0:Int))))/\(Qc=(↑(nat_lit 1):Int)->((0:Int)<=Qc/\Qc<(↑(3:Nat):Int))/\((True/\(Qc=(↑(nat_lit 0):Int)->Qb (decide (Qh.2.1<Qd.1)) true fun Qp=>K Qp (0:Int)))/\(Qc=(↑(nat_lit 1):Int)->Qb (decide (Qh.2.1<Qd.2.1)) true fun Qp=>K Qp (0:Int)))/\(Qc=(↑(nat_lit 2):Int)->Qb (decide (Qh.2.1<Qd.2.2)) true fun Qp=>K Qp (0:Int))))/\(Qc=(↑(nat_lit 2):Int)->((0:Int)<=Qc/\Qc<(↑(3:Nat):Int))/\((True/\(Qc=(↑(nat_lit 0):Int)->Qb (decide (Qh.2.2<Qd.1)) true fun Qp=>K Qp (0:Int)))/\(Qc=(↑(nat_lit 1):Int)->Qb (decide (Qh.2.2<Qd.2.1)) true fun Qp=>K Qp (0:Int)))/\(Qc=(↑(nat_lit 2):Int)->Qb (decide (Qh.2.2<Qd.2.2)) true fun Qp=>K Qp (0:Int))))))) (K (0:Int) (0:Int))) (0:Int)))))) (K (0:Int) (8:Int))) (K (0:Int) Qm)) (K (0:Int) Qa)
def q3l:q7b:=z3w z23 q7a q8h
abbrev z25:Type:=Subj->Ex->(Bool->Prop)->Prop
def z9z(j6k:q9w)(j6l:z6q)(z3t:z2y)(q3u:q69)(q9j:q36)(z39:q7b):z25:=fun s e K=>j6k (Subj.mk s.1) e.2 e.3 fun Qa Gh=>Cnd (Gh=true) (j6l e.1 fun Qm=>Cnd (Qm=true) (Cnd (e.1=6) (K true) (Cnd (e.1=8) (Lp1 (fun Qh q7u=>Fits e.4->CAt e.4 Qh (fun y4=>z3t Qa y4 fun Jc=>Cnd (Jc=true) (K true) (InI (Qh+1)/\q7u (Qh+1))) (K false)) (0:Int)) (Fits e.4->Cnd ((↑e.4.length:Int)=0) (K false) (((0:Int)<=(0:Int)/\(0:Int)<(↑e.4.length:Int))/\ ∀y3,e.4[Int.toNat (0:Int)]? =some y3->Cnd (Qa.1=3) (Cnd (e.1=7) (z3t Qa y3 fun Qt=>K Qt) (Cnd (e.1=9) (Cnd (y3.1=3) (q3u Qa.3 y3.3 (0:Int) fun Qt=>K Qt) (K false)) (Cnd (e.1=10) (Cnd (y3.1=3) (InI ((↑Qa.3.size:Int) - (↑y3.3.size:Int))/\q3u Qa.3 y3.3 ((↑Qa.3.size:Int) - (↑y3.3.size:Int)) fun Qt=>K Qt) (K false)) (Cnd (e.1=11) (q9j Qa y3 fun Qt=>K Qt) (z39 Qa y3 fun Qt q9i=>Cnd (q9i=0) (Cnd (e.1=12) (K (decide (Qt<0))) (Cnd (e.1=13) (K (decide (Qt<=0))) (Cnd (e.1=14) (K (decide ((0:Int)<Qt))) (K (decide ((0:Int)<=Qt)))))) (K false)))))) (Cnd (e.1=7) (z3t Qa y3 fun Qt=>K Qt) (Cnd (e.1=9) (K false) (Cnd (e.1=10) (K false) (Cnd (e.1=11) (q9j Qa y3 fun Qt=>K Qt) (z39 Qa y3 fun Qt q9i=>Cnd (q9i=0) (Cnd (e.1=12) (K (decide (Qt<0))) (Cnd (e.1=13) (K (decide (Qt<=0))) (Cnd (e.1=14) (K (decide ((0:Int)<Qt))) (K (decide ((0:Int)<=Qt)))))) (K false)))))))))) (K false)) (K false)
def z27:z25:=z9z q9x q9y q8d q3k q37 q3l
abbrev q8i:Type:=Subj->List (ByteArray)->Ex->(Bool->Prop)->Prop
def z90(Z0:By)(j9j:z25)(X:q8i):q8i:=fun s in_ e K=>Cnd (e.1=1) (K true) (Cnd (e.1=2) (Lp1 (fun Qa Ba=>Fits e.5->CAt e.5 Qa (fun y2=>X (Subj.mk s.1) in_ (Ex.mk y2.1 y2.2 y2.3 y2.4 y2.5) fun Qc=>Cnd (Qc=true) (InI (Qa+1)/\Ba (Qa+1)) (K false)) (K true)) (0:Int)) (Cnd (e.1=3) (Lp1 (fun Qa Ba=>Fits e.5->CAt e.5 Qa (fun y2=>X (Subj.mk s.1) in_ (Ex.mk y2.1 y2.2 y2.3 y2.4 y2.5) fun Qc=>Cnd (Qc=true) (K true) (InI (Qa+1)/\Ba (Qa+1))) (K false)) (0:Int)) (Cnd (e.1=4) (Fits e.5->Cnd ((0:Int)<(↑e.5.length:Int)) (((0:Int)<=(0:Int)/\(0:Int)<(↑e.5.length:Int))/\ ∀y1,e.5[Int.toNat (0:Int)]? =some y1->X (Subj.mk s.1) in_ (Ex.mk y1.1 y1.2 y1.3 y1.4 y1.5) fun Qd=>K (match decide ((Qd,()).1=true) with|true=>false|false=>true)) (K false)) (Cnd (e.1=5) (Z0 in_ e.3 fun Qa=>K Qa) (j9j (Subj.mk s.1) (Ex.mk e.1 e.2 e.3 e.4 e.5) fun Qa=>K Qa)))))
def j8t:q8i:=fun s in_ e K=> ∀X:q8i,(∀s in_ e K,z90 q3i z27 X s in_ e K->X s in_ e K)->X s in_ e K
abbrev j3t:Type:=List (Rng)->Int->(Bool->Prop)->Prop
def z3x:j3t:=fun l arm K=>Lp1 (fun Qa Ba=>Fits l->CAt l Qa (fun y2=>Cnd (y2.3=arm) (K true) (InI (Qa+1)/\Ba (Qa+1))) (K false)) (0:Int)
end Go.En
end
noncomputable section
set_option maxRecDepth 100000
namespace Go.Proofs
open Go.Shelf
def Tryz.laysC172_ren:Go.Shelf.Ren:=⟨fun|172=>265|244=>277|245=>278|247=>286|279=>287|280=>288|281=>289|282=>290|287=>293|316=>294|171=>282|205=>295|321=>297|322=>298|243=>291|246=>296|283=>299|284=>300|285=>301|286=>302|129=>167|317=>303|318=>304|319=>305|320=>306|337=>307|338=>308|n=>n,fun|9=>9|3=>3|75=>358|76=>359|4=>4|5=>5|167=>377|37=>144|0=>0|85=>378|2=>2|168=>380|53=>169|175=>383|46=>223|210=>386|127=>390|145=>393|143=>391|21=>21|171=>394|173=>396|212=>399|51=>262|20=>20|213=>400|232=>401|233=>402|80=>403|n=>n,fun|15=>5|16=>6|17=>7|18=>8|19=>9|n=>n⟩
theorem Tryz.laysC172:Go.Proofs.LaysC.n172 Tryz.prog Tryz.laysC172_ren:={
 mixed:=by kernel_rfl
 f129:=Tryz.func167.trans (congrArg some (by kernel_rfl))
 f171:=Tryz.func282.trans (congrArg some (by kernel_rfl))
 f172:=Tryz.func265.trans (congrArg some (by kernel_rfl))
 f205:=Tryz.func295.trans (congrArg some (by kernel_rfl))
 f243:=Tryz.func291.trans (congrArg some (by kernel_rfl))
 f244:=Tryz.func277.trans (congrArg some (by kernel_rfl))
 f245:=Tryz.func278.trans (congrArg some (by kernel_rfl))
 f246:=Tryz.func296.trans (congrArg some (by kernel_rfl))
 f247:=Tryz.func286.trans (congrArg some (by kernel_rfl))
 f279:=Tryz.func287.trans (congrArg some (by kernel_rfl))
 f280:=Tryz.func288.trans (congrArg some (by kernel_rfl))
 f281:=Tryz.func289.trans (congrArg some (by kernel_rfl))
 f282:=Tryz.func290.trans (congrArg some (by kernel_rfl))
 f283:=Tryz.func299.trans (congrArg some (by kernel_rfl))
 f284:=Tryz.func300.trans (congrArg some (by kernel_rfl))
 f285:=Tryz.func301.trans (congrArg some (by kernel_rfl))
 f286:=Tryz.func302.trans (congrArg some (by kernel_rfl))
 f287:=Tryz.func293.trans (congrArg some (by kernel_rfl))
 f316:=Tryz.func294.trans (congrArg some (by kernel_rfl))
 f317:=Tryz.func303.trans (congrArg some (by kernel_rfl))
 f318:=Tryz.func304.trans (congrArg some (by kernel_rfl))
 f319:=Tryz.func305.trans (congrArg some (by kernel_rfl))
 f320:=Tryz.func306.trans (congrArg some (by kernel_rfl))
 f321:=Tryz.func297.trans (congrArg some (by kernel_rfl))
 f322:=Tryz.func298.trans (congrArg some (by kernel_rfl))
 f337:=Tryz.func307.trans (congrArg some (by kernel_rfl))
 f338:=Tryz.func308.trans (congrArg some (by kernel_rfl))
 t0:=Tryz.underlying0
 a0:=Tryz.isAgg0
 z0:=Tryz.sizeOf0
 v0:=Tryz.zeroValue0
 t2:=Tryz.underlying2
 a2:=Tryz.isAgg2
 z2:=Tryz.sizeOf2
 v2:=Tryz.zeroValue2
 t3:=Tryz.underlying3
 a3:=Tryz.isAgg3
 z3:=Tryz.sizeOf3
 v3:=Tryz.zeroValue3
 t4:=Tryz.underlying4
 a4:=Tryz.isAgg4
 z4:=Tryz.sizeOf4
 v4:=Tryz.zeroValue4
 t5:=Tryz.underlying5
 a5:=Tryz.isAgg5
 z5:=Tryz.sizeOf5
 v5:=Tryz.zeroValue5
 t9:=Tryz.underlying9
 a9:=Tryz.isAgg9
 z9:=Tryz.sizeOf9
 v9:=Tryz.zeroValue9
 t20:=Tryz.underlying20
 a20:=Tryz.isAgg20
 z20:=Tryz.sizeOf20
 v20:=Tryz.zeroValue20
 t21:=Tryz.underlying21
 a21:=Tryz.isAgg21
 z21:=Tryz.sizeOf21
 v21:=Tryz.zeroValue21
 t37:=Tryz.underlying144
 a37:=Tryz.isAgg144
 z37:=Tryz.sizeOf144
 v37:=Tryz.zeroValue144
 t46:=Tryz.underlying223
 a46:=Tryz.isAgg223
 z46:=Tryz.sizeOf223
 v46:=Tryz.zeroValue223
 t51:=Tryz.underlying262
 a51:=Tryz.isAgg262
 z51:=Tryz.sizeOf262
 v51:=Tryz.zeroValue262
 t53:=Tryz.underlying169
 a53:=Tryz.isAgg169
 z53:=Tryz.sizeOf169
 v53:=Tryz.zeroValue169
 t75:=Tryz.underlying358
 a75:=Tryz.isAgg358
 z75:=Tryz.sizeOf358
 v75:=Tryz.zeroValue358
 t76:=Tryz.underlying359
 a76:=Tryz.isAgg359
 z76:=Tryz.sizeOf359
 v76:=Tryz.zeroValue359
 t85:=Tryz.underlying378
 a85:=Tryz.isAgg378
 z85:=Tryz.sizeOf378
 v85:=Tryz.zeroValue378
 t127:=Tryz.underlying390
 a127:=Tryz.isAgg390
 z127:=Tryz.sizeOf390
 v127:=Tryz.zeroValue390
 t143:=Tryz.underlying391
 a143:=Tryz.isAgg391
 z143:=Tryz.sizeOf391
 v143:=Tryz.zeroValue391
 t145:=Tryz.underlying393
 a145:=Tryz.isAgg393
 z145:=Tryz.sizeOf393
 v145:=Tryz.zeroValue393
 t167:=Tryz.underlying377
 a167:=Tryz.isAgg377
 z167:=Tryz.sizeOf377
 v167:=Tryz.zeroValue377
 t168:=Tryz.underlying380
 a168:=Tryz.isAgg380
 z168:=Tryz.sizeOf380
 v168:=Tryz.zeroValue380
 t171:=Tryz.underlying394
 a171:=Tryz.isAgg394
 z171:=Tryz.sizeOf394
 v171:=Tryz.zeroValue394
 t173:=Tryz.underlying396
 a173:=Tryz.isAgg396
 z173:=Tryz.sizeOf396
 v173:=Tryz.zeroValue396
 t175:=Tryz.underlying383
 a175:=Tryz.isAgg383
 z175:=Tryz.sizeOf383
 v175:=Tryz.zeroValue383
 t210:=Tryz.underlying386
 a210:=Tryz.isAgg386
 z210:=Tryz.sizeOf386
 v210:=Tryz.zeroValue386
 t212:=Tryz.underlying399
 a212:=Tryz.isAgg399
 z212:=Tryz.sizeOf399
 v212:=Tryz.zeroValue399
 t213:=Tryz.underlying400
 a213:=Tryz.isAgg400
 z213:=Tryz.sizeOf400
 t232:=Tryz.underlying401
 a232:=Tryz.isAgg401
 z232:=Tryz.sizeOf401
 v232:=Tryz.zeroValue401
 t233:=Tryz.underlying402
 a233:=Tryz.isAgg402
 z233:=Tryz.sizeOf402
 v233:=Tryz.zeroValue402
 g15:=by kernel_rfl
 g16:=by kernel_rfl
 g17:=by kernel_rfl
 g18:=by kernel_rfl
 g19:=by kernel_rfl
 t80:=Tryz.underlying403
 a80:=Tryz.isAgg403
 z80:=Tryz.sizeOf403
 v80:=Tryz.zeroValue403
 i0:=by kernel_rfl
 i2:=by kernel_rfl
 i3:=by kernel_rfl
 i4:=by kernel_rfl
 i5:=by kernel_rfl
 i9:=by kernel_rfl
 i20:=by kernel_rfl
 i21:=by kernel_rfl
 i37:=by kernel_rfl
 i46:=by kernel_rfl
 i51:=by kernel_rfl
 i53:=by kernel_rfl
 i75:=by kernel_rfl
 i76:=by kernel_rfl
 i80:=by kernel_rfl
 i85:=by kernel_rfl
 i127:=by kernel_rfl
 i143:=by kernel_rfl
 i145:=by kernel_rfl
 i167:=by kernel_rfl
 i168:=by kernel_rfl
 i171:=by kernel_rfl
 i173:=by kernel_rfl
 i175:=by kernel_rfl
 i210:=by kernel_rfl
 i212:=by kernel_rfl
 i232:=by kernel_rfl
 i233:=by kernel_rfl
 m15:=by kernel_rfl
 m16:=by kernel_rfl
 m17:=by kernel_rfl
 m18:=by kernel_rfl
 m19:=by kernel_rfl
 c0:=by kernel_rfl
 c2:=by kernel_rfl
 c3:=by kernel_rfl
 c4:=by kernel_rfl
 c5:=by kernel_rfl
 c9:=by kernel_rfl
 c20:=by kernel_rfl
 c21:=by kernel_rfl
 c37:=by kernel_rfl
 c46:=by kernel_rfl
 c51:=by kernel_rfl
 c53:=by kernel_rfl
 c75:=by kernel_rfl
 c76:=by kernel_rfl
 c80:=by kernel_rfl
 c85:=by kernel_rfl
 c127:=by kernel_rfl
 c143:=by kernel_rfl
 c145:=by kernel_rfl
 c167:=by kernel_rfl
 c168:=by kernel_rfl
 c171:=by kernel_rfl
 c173:=by kernel_rfl
 c175:=by kernel_rfl
 c210:=by kernel_rfl
 c212:=by kernel_rfl
 c213:=by kernel_rfl
 c232:=by kernel_rfl
 c233:=by kernel_rfl}
open Go.RowKit in
theorem Tryz.strconv_Atoi_ok(s:ByteArray)(hmax:s.size<=9223372036854775806)(v:Int)(h:Lib.atoiAll s.data.toList= .ok v)(w:World):
  Calls Tryz.prog 265 #[.string s] w fun e w'=>e= .returned (.tuple #[.int .i64 v,.nilIface])/\(w'=w∨ ∃t,w'=Lib.bytesWorld w 5 t):=Any.strconv_Atoi_ok Tryz.laysC172 s hmax v h w
open Go.RowKit in
theorem Tryz.strconv_Atoi_syntax(s:ByteArray)(hlim:s.size<=281474976710656)(h:Lib.atoiAll s.data.toList=Go.Lib.NumEnd.syntax)(ev:Value)(w:World)(hv:w.cell? ⟨5,0,none⟩=some ev)(hev:ev= .nilIface∨ ∃te pe,ev= .iface te pe):
  Calls Tryz.prog 265 #[.string s] w fun e w'=> ∃N,e= .returned (.tuple #[.int .i64 (0),.iface 380 (.pointer (some ⟨N,0,none⟩))])/\w.heap.size<=N/\w'.heap[N]? =some (.cells #[.string ⟨#[65,116,111,105]⟩,.string s,ev] 386 (0,0))/\Below w.heap.size w w':=Any.strconv_Atoi_syntax Tryz.laysC172 s hlim h ev w hv hev
open Go.RowKit in
theorem Tryz.strconv_Atoi_range(s:ByteArray)(hlim:s.size<=281474976710656)(h:Lib.atoiAll s.data.toList= .range)(ev:Value)(w:World)(hv:w.cell? ⟨6,0,none⟩=some ev)(hev:ev= .nilIface∨ ∃te pe,ev= .iface te pe):
  Calls Tryz.prog 265 #[.string s] w fun e w'=> ∃N,e= .returned (.tuple #[.int .i64 (Lib.atoiSat s.data.toList),.iface 380 (.pointer (some ⟨N,0,none⟩))])/\w.heap.size<=N/\w'.heap[N]? =some (.cells #[.string ⟨#[65,116,111,105]⟩,.string s,ev] 386 (0,0))/\Below w.heap.size w w':=Any.strconv_Atoi_range Tryz.laysC172 s hlim h ev w hv hev
def Tryz.lays144_ren:Go.Shelf.Ren:=⟨fun|144=>188|143=>219|219=>241|217=>258|225=>259|224=>260|267=>261|266=>271|314=>272|n=>n,fun|9=>9|4=>4|3=>3|5=>5|46=>223|146=>364|51=>262|n=>n,fun|1=>2|n=>n⟩
theorem Tryz.lays144:Go.Proofs.Lays.n144 Tryz.prog Tryz.lays144_ren:={
 mixed:=by kernel_rfl
 f143:=Tryz.func219.trans (congrArg some (by kernel_rfl))
 f144:=Tryz.func188.trans (congrArg some (by kernel_rfl))
 f217:=Tryz.func258.trans (congrArg some (by kernel_rfl))
 f219:=Tryz.func241.trans (congrArg some (by kernel_rfl))
 f224:=Tryz.func260.trans (congrArg some (by kernel_rfl))
 f225:=Tryz.func259.trans (congrArg some (by kernel_rfl))
 f266:=Tryz.func271.trans (congrArg some (by kernel_rfl))
 f267:=Tryz.func261.trans (congrArg some (by kernel_rfl))
 f314:=Tryz.func272.trans (congrArg some (by kernel_rfl))
 t3:=Tryz.underlying3
 a3:=Tryz.isAgg3
 z3:=Tryz.sizeOf3
 v3:=Tryz.zeroValue3
 t4:=Tryz.underlying4
 a4:=Tryz.isAgg4
 z4:=Tryz.sizeOf4
 v4:=Tryz.zeroValue4
 t5:=Tryz.underlying5
 a5:=Tryz.isAgg5
 z5:=Tryz.sizeOf5
 v5:=Tryz.zeroValue5
 t9:=Tryz.underlying9
 a9:=Tryz.isAgg9
 z9:=Tryz.sizeOf9
 v9:=Tryz.zeroValue9
 t46:=Tryz.underlying223
 a46:=Tryz.isAgg223
 z46:=Tryz.sizeOf223
 v46:=Tryz.zeroValue223
 t51:=Tryz.underlying262
 a51:=Tryz.isAgg262
 z51:=Tryz.sizeOf262
 v51:=Tryz.zeroValue262
 t146:=Tryz.underlying364
 a146:=Tryz.isAgg364
 z146:=Tryz.sizeOf364
 v146:=Tryz.zeroValue364
 g1:=by kernel_rfl}
open Go.RowKit Go.Lib in
theorem Tryz.strings_Contains(s sub:ByteArray)(m:Int)(w:World)(hs:s.size<4294967281)(hm:w.cell? ⟨2,0,none⟩=some (.int .i64 m)):
  Calls Tryz.prog 188 #[.string s,.string sub] w fun e w'=>e= .returned (.bool (Lib.contains s.data.toList sub.data.toList))/\w'=w:=Any.strings_Contains Tryz.lays144 s sub m w hs hm
def Tryz.lays190_ren:Go.Shelf.Ren:=⟨fun|190=>93|125=>124|258=>123|128=>166|129=>167|302=>157|303=>158|304=>159|305=>160|306=>161|307=>162|308=>163|309=>164|310=>165|333=>197|329=>198|330=>199|334=>200|335=>201|336=>202|344=>234|n=>n,fun|31=>55|9=>9|3=>3|46=>223|0=>0|51=>262|53=>169|4=>4|183=>269|182=>268|131=>166|5=>5|218=>311|222=>315|228=>341|229=>342|n=>n,fun|n=>n⟩
theorem Tryz.lays190:Go.Proofs.Lays.n190 Tryz.prog Tryz.lays190_ren:={
 mixed:=by kernel_rfl
 f125:=Tryz.func124.trans (congrArg some (by kernel_rfl))
 f128:=Tryz.func166.trans (congrArg some (by kernel_rfl))
 f129:=Tryz.func167.trans (congrArg some (by kernel_rfl))
 f190:=Tryz.func93.trans (congrArg some (by kernel_rfl))
 f258:=Tryz.func123.trans (congrArg some (by kernel_rfl))
 f302:=Tryz.func157.trans (congrArg some (by kernel_rfl))
 f303:=Tryz.func158.trans (congrArg some (by kernel_rfl))
 f304:=Tryz.func159.trans (congrArg some (by kernel_rfl))
 f305:=Tryz.func160.trans (congrArg some (by kernel_rfl))
 f306:=Tryz.func161.trans (congrArg some (by kernel_rfl))
 f307:=Tryz.func162.trans (congrArg some (by kernel_rfl))
 f308:=Tryz.func163.trans (congrArg some (by kernel_rfl))
 f309:=Tryz.func164.trans (congrArg some (by kernel_rfl))
 f310:=Tryz.func165.trans (congrArg some (by kernel_rfl))
 f329:=Tryz.func198.trans (congrArg some (by kernel_rfl))
 f330:=Tryz.func199.trans (congrArg some (by kernel_rfl))
 f333:=Tryz.func197.trans (congrArg some (by kernel_rfl))
 f334:=Tryz.func200.trans (congrArg some (by kernel_rfl))
 f335:=Tryz.func201.trans (congrArg some (by kernel_rfl))
 f336:=Tryz.func202.trans (congrArg some (by kernel_rfl))
 f344:=Tryz.func234.trans (congrArg some (by kernel_rfl))
 t0:=Tryz.underlying0
 a0:=Tryz.isAgg0
 z0:=Tryz.sizeOf0
 v0:=Tryz.zeroValue0
 t3:=Tryz.underlying3
 a3:=Tryz.isAgg3
 z3:=Tryz.sizeOf3
 v3:=Tryz.zeroValue3
 t4:=Tryz.underlying4
 a4:=Tryz.isAgg4
 z4:=Tryz.sizeOf4
 v4:=Tryz.zeroValue4
 t5:=Tryz.underlying5
 a5:=Tryz.isAgg5
 z5:=Tryz.sizeOf5
 v5:=Tryz.zeroValue5
 t9:=Tryz.underlying9
 a9:=Tryz.isAgg9
 z9:=Tryz.sizeOf9
 v9:=Tryz.zeroValue9
 t31:=Tryz.underlying55
 a31:=Tryz.isAgg55
 z31:=Tryz.sizeOf55
 v31:=Tryz.zeroValue55
 t46:=Tryz.underlying223
 a46:=Tryz.isAgg223
 z46:=Tryz.sizeOf223
 v46:=Tryz.zeroValue223
 t51:=Tryz.underlying262
 a51:=Tryz.isAgg262
 z51:=Tryz.sizeOf262
 v51:=Tryz.zeroValue262
 t53:=Tryz.underlying169
 a53:=Tryz.isAgg169
 z53:=Tryz.sizeOf169
 v53:=Tryz.zeroValue169
 t131:=Tryz.underlying166
 a131:=Tryz.isAgg166
 z131:=Tryz.sizeOf166
 v131:=Tryz.zeroValue166
 t182:=Tryz.underlying268
 a182:=Tryz.isAgg268
 z182:=Tryz.sizeOf268
 v182:=Tryz.zeroValue268
 t183:=Tryz.underlying269
 a183:=Tryz.isAgg269
 z183:=Tryz.sizeOf269
 v183:=Tryz.zeroValue269
 t218:=Tryz.underlying311
 a218:=Tryz.isAgg311
 z218:=Tryz.sizeOf311
 v218:=Tryz.zeroValue311
 t222:=Tryz.underlying315
 a222:=Tryz.isAgg315
 z222:=Tryz.sizeOf315
 v222:=Tryz.zeroValue315
 t228:=Tryz.underlying341
 a228:=Tryz.isAgg341
 z228:=Tryz.sizeOf341
 v228:=Tryz.zeroValue341
 t229:=Tryz.underlying342
 a229:=Tryz.isAgg342
 z229:=Tryz.sizeOf342
 v229:=Tryz.zeroValue342}
open Go.Sort Go.RowKit in
theorem Tryz.slices_Sort_string(blk off cap:Nat)(ss:List (List UInt8))(w:World)(hH:Holds encStr w blk off ss.toArray)(hblk:blk<w.heap.size)(hsz:ss.length<4611686018427387904):
  Calls Tryz.prog 93 #[.slice (some ⟨blk,off,none⟩) ss.length cap] w fun e w'=>
   e= .returned (.tuple #[])/\ ∃n os,w'=grow (putRow encStr (Sort.ahead w n) blk off (ss.mergeSort fun x y=>decide (x<=y)).toArray) os:=Any.slices_Sort_string Tryz.lays190 blk off cap ss w hH hblk hsz
def Tryz.lays146_ren:Go.Shelf.Ren:=⟨fun|146=>245|221=>263|268=>274|138=>275|143=>219|195=>283|197=>284|218=>285|219=>241|260=>292|217=>258|225=>259|224=>260|267=>261|266=>271|314=>272|n=>n,fun|9=>9|31=>55|3=>3|4=>4|0=>0|105=>375|21=>21|5=>5|46=>223|119=>209|139=>369|138=>368|146=>364|51=>262|n=>n,fun|1=>2|3=>3|4=>4|n=>n⟩
theorem Tryz.lays146:Go.Proofs.Lays.n146 Tryz.prog Tryz.lays146_ren:={
 mixed:=by kernel_rfl
 f138:=Tryz.func275.trans (congrArg some (by kernel_rfl))
 f143:=Tryz.func219.trans (congrArg some (by kernel_rfl))
 f146:=Tryz.func245.trans (congrArg some (by kernel_rfl))
 f195:=Tryz.func283.trans (congrArg some (by kernel_rfl))
 f197:=Tryz.func284.trans (congrArg some (by kernel_rfl))
 f217:=Tryz.func258.trans (congrArg some (by kernel_rfl))
 f218:=Tryz.func285.trans (congrArg some (by kernel_rfl))
 f219:=Tryz.func241.trans (congrArg some (by kernel_rfl))
 f221:=Tryz.func263.trans (congrArg some (by kernel_rfl))
 f224:=Tryz.func260.trans (congrArg some (by kernel_rfl))
 f225:=Tryz.func259.trans (congrArg some (by kernel_rfl))
 f260:=Tryz.func292.trans (congrArg some (by kernel_rfl))
 f266:=Tryz.func271.trans (congrArg some (by kernel_rfl))
 f267:=Tryz.func261.trans (congrArg some (by kernel_rfl))
 f268:=Tryz.func274.trans (congrArg some (by kernel_rfl))
 f314:=Tryz.func272.trans (congrArg some (by kernel_rfl))
 t0:=Tryz.underlying0
 a0:=Tryz.isAgg0
 z0:=Tryz.sizeOf0
 v0:=Tryz.zeroValue0
 t3:=Tryz.underlying3
 a3:=Tryz.isAgg3
 z3:=Tryz.sizeOf3
 v3:=Tryz.zeroValue3
 t4:=Tryz.underlying4
 a4:=Tryz.isAgg4
 z4:=Tryz.sizeOf4
 v4:=Tryz.zeroValue4
 t5:=Tryz.underlying5
 a5:=Tryz.isAgg5
 z5:=Tryz.sizeOf5
 v5:=Tryz.zeroValue5
 t9:=Tryz.underlying9
 a9:=Tryz.isAgg9
 z9:=Tryz.sizeOf9
 v9:=Tryz.zeroValue9
 t21:=Tryz.underlying21
 a21:=Tryz.isAgg21
 z21:=Tryz.sizeOf21
 v21:=Tryz.zeroValue21
 t31:=Tryz.underlying55
 a31:=Tryz.isAgg55
 z31:=Tryz.sizeOf55
 v31:=Tryz.zeroValue55
 t46:=Tryz.underlying223
 a46:=Tryz.isAgg223
 z46:=Tryz.sizeOf223
 v46:=Tryz.zeroValue223
 t51:=Tryz.underlying262
 a51:=Tryz.isAgg262
 z51:=Tryz.sizeOf262
 v51:=Tryz.zeroValue262
 t105:=Tryz.underlying375
 a105:=Tryz.isAgg375
 z105:=Tryz.sizeOf375
 v105:=Tryz.zeroValue375
 t119:=Tryz.underlying209
 a119:=Tryz.isAgg209
 z119:=Tryz.sizeOf209
 t138:=Tryz.underlying368
 a138:=Tryz.isAgg368
 z138:=Tryz.sizeOf368
 v138:=Tryz.zeroValue368
 t139:=Tryz.underlying369
 a139:=Tryz.isAgg369
 z139:=Tryz.sizeOf369
 v139:=Tryz.zeroValue369
 t146:=Tryz.underlying364
 a146:=Tryz.isAgg364
 z146:=Tryz.sizeOf364
 v146:=Tryz.zeroValue364
 g1:=by kernel_rfl
 g3:=by kernel_rfl
 g4:=by kernel_rfl}
open Go.RowKit Go.Lib in
theorem Tryz.strings_Split(s sep:ByteArray)(m:Int)(w:World)(hs:s.size<4294967281)(hm:w.cell? ⟨2,0,none⟩=some (.int .i64 m))(h1:1<=sep.size):
  Calls Tryz.prog 245 #[.string s,.string sep] w fun e w'=>
   e= .returned (.slice (some ⟨w.heap.size,0,none⟩) (Lib.countB s sep+1) (Lib.countB s sep+1))/\w'=w.alloc (.cells ((Lib.splitB sep 0 (Lib.countB s sep) s).map Value.string).toArray 9):=Any.strings_Split Tryz.lays146 (by kernel_rfl) s sep m w hs hm h1
def Tryz.lays157_ren:Go.Shelf.Ren:=⟨fun|157=>85|229=>117|199=>118|261=>151|311=>194|312=>195|n=>n,fun|9=>9|31=>55|3=>3|5=>5|4=>4|119=>209|0=>0|40=>211|152=>259|21=>21|154=>261|51=>262|141=>264|196=>304|193=>301|198=>306|49=>22|194=>302|201=>309|226=>339|46=>223|227=>340|n=>n,fun|0=>0|6=>1|n=>n⟩
theorem Tryz.lays157:Go.Proofs.Lays.n157 Tryz.prog Tryz.lays157_ren:={
 mixed:=by kernel_rfl
 f157:=Tryz.func85.trans (congrArg some (by kernel_rfl))
 f199:=Tryz.func118.trans (congrArg some (by kernel_rfl))
 f229:=Tryz.func117.trans (congrArg some (by kernel_rfl))
 f261:=Tryz.func151.trans (congrArg some (by kernel_rfl))
 f311:=Tryz.func194.trans (congrArg some (by kernel_rfl))
 f312:=Tryz.func195.trans (congrArg some (by kernel_rfl))
 t0:=Tryz.underlying0
 a0:=Tryz.isAgg0
 z0:=Tryz.sizeOf0
 v0:=Tryz.zeroValue0
 t3:=Tryz.underlying3
 a3:=Tryz.isAgg3
 z3:=Tryz.sizeOf3
 v3:=Tryz.zeroValue3
 t4:=Tryz.underlying4
 a4:=Tryz.isAgg4
 z4:=Tryz.sizeOf4
 v4:=Tryz.zeroValue4
 t5:=Tryz.underlying5
 a5:=Tryz.isAgg5
 z5:=Tryz.sizeOf5
 v5:=Tryz.zeroValue5
 t9:=Tryz.underlying9
 a9:=Tryz.isAgg9
 z9:=Tryz.sizeOf9
 v9:=Tryz.zeroValue9
 t21:=Tryz.underlying21
 a21:=Tryz.isAgg21
 z21:=Tryz.sizeOf21
 v21:=Tryz.zeroValue21
 t31:=Tryz.underlying55
 a31:=Tryz.isAgg55
 z31:=Tryz.sizeOf55
 v31:=Tryz.zeroValue55
 t40:=Tryz.underlying211
 a40:=Tryz.isAgg211
 z40:=Tryz.sizeOf211
 v40:=Tryz.zeroValue211
 t46:=Tryz.underlying223
 a46:=Tryz.isAgg223
 z46:=Tryz.sizeOf223
 v46:=Tryz.zeroValue223
 t49:=Tryz.underlying22
 a49:=Tryz.isAgg22
 z49:=Tryz.sizeOf22
 v49:=Tryz.zeroValue22
 t51:=Tryz.underlying262
 a51:=Tryz.isAgg262
 z51:=Tryz.sizeOf262
 v51:=Tryz.zeroValue262
 t119:=Tryz.underlying209
 a119:=Tryz.isAgg209
 z119:=Tryz.sizeOf209
 t141:=Tryz.underlying264
 a141:=Tryz.isAgg264
 z141:=Tryz.sizeOf264
 v141:=Tryz.zeroValue264
 t152:=Tryz.underlying259
 a152:=Tryz.isAgg259
 z152:=Tryz.sizeOf259
 v152:=Tryz.zeroValue259
 t154:=Tryz.underlying261
 a154:=Tryz.isAgg261
 z154:=Tryz.sizeOf261
 v154:=Tryz.zeroValue261
 t193:=Tryz.underlying301
 a193:=Tryz.isAgg301
 z193:=Tryz.sizeOf301
 v193:=Tryz.zeroValue301
 t194:=Tryz.underlying302
 a194:=Tryz.isAgg302
 z194:=Tryz.sizeOf302
 v194:=Tryz.zeroValue302
 t196:=Tryz.underlying304
 a196:=Tryz.isAgg304
 z196:=Tryz.sizeOf304
 v196:=Tryz.zeroValue304
 t198:=Tryz.underlying306
 a198:=Tryz.isAgg306
 z198:=Tryz.sizeOf306
 v198:=Tryz.zeroValue306
 t201:=Tryz.underlying309
 a201:=Tryz.isAgg309
 z201:=Tryz.sizeOf309
 v201:=Tryz.zeroValue309
 t226:=Tryz.underlying339
 a226:=Tryz.isAgg339
 z226:=Tryz.sizeOf339
 v226:=Tryz.zeroValue339
 t227:=Tryz.underlying340
 a227:=Tryz.isAgg340
 z227:=Tryz.sizeOf340
 v227:=Tryz.zeroValue340
 g0:=by kernel_rfl
 g6:=by kernel_rfl}
def Tryz.lays194_ren:Go.Shelf.Ren:=⟨fun|194=>94|n=>n,fun|31=>55|9=>9|3=>3|4=>4|0=>0|n=>n,fun|n=>n⟩
theorem Tryz.lays194:Go.Proofs.Lays.n194 Tryz.prog Tryz.lays194_ren:={
 mixed:=by kernel_rfl
 f194:=Tryz.func94.trans (congrArg some (by kernel_rfl))
 t0:=Tryz.underlying0
 a0:=Tryz.isAgg0
 z0:=Tryz.sizeOf0
 v0:=Tryz.zeroValue0
 t3:=Tryz.underlying3
 a3:=Tryz.isAgg3
 z3:=Tryz.sizeOf3
 v3:=Tryz.zeroValue3
 t4:=Tryz.underlying4
 a4:=Tryz.isAgg4
 z4:=Tryz.sizeOf4
 v4:=Tryz.zeroValue4
 t9:=Tryz.underlying9
 a9:=Tryz.isAgg9
 z9:=Tryz.sizeOf9
 v9:=Tryz.zeroValue9
 t31:=Tryz.underlying55
 a31:=Tryz.isAgg55
 z31:=Tryz.sizeOf55
 v31:=Tryz.zeroValue55}
open Go.RowKit Go.Lib Go.Sort in
theorem Tryz.slices_Compact_string(blk off cap:Nat)(zs:List (List UInt8))(w:World)(hH:Holds encStr w blk off zs.toArray)(hsz:zs.length<=9223372036854775807)(hcap:zs.length<=cap):
  Calls Tryz.prog 94 #[.slice (some ⟨blk,off,none⟩) zs.length cap] w fun e w'=>e= .returned (.slice (some ⟨blk,off,none⟩) (Lib.compact zs).length cap)/\ ∃q,w'=putRow encStr (Sort.ahead w q) blk off (Lib.compact zs++List.replicate (zs.length - (Lib.compact zs).length) []).toArray:=Any.slices_Compact_string Tryz.lays194 blk off cap zs w hH hsz hcap
open Go.RowKit Go.Lib Go.Sort in
theorem Tryz.slices_Compact_string_empty(a:Option Addr)(cap:Nat)(w:World):
  Calls Tryz.prog 94 #[.slice a 0 cap] w fun e w'=>e= .returned (.slice a 0 cap)/\w'=w:=Any.slices_Compact_string_empty Tryz.lays194 a cap w
def Tryz.laysNm224_ren:Go.Shelf.Ren:=⟨fun|24=>232|n=>n,fun|24=>55|9=>9|3=>3|4=>4|0=>0|n=>n,fun|n=>n⟩
theorem Tryz.laysNm224:Go.Proofs.Lays2.n24 Tryz.prog Tryz.laysNm224_ren:={
 mixed:=by kernel_rfl
 f24:=Tryz.func232.trans (congrArg some (by kernel_rfl))
 t0:=Tryz.underlying0
 a0:=Tryz.isAgg0
 z0:=Tryz.sizeOf0
 v0:=Tryz.zeroValue0
 t3:=Tryz.underlying3
 a3:=Tryz.isAgg3
 z3:=Tryz.sizeOf3
 v3:=Tryz.zeroValue3
 t4:=Tryz.underlying4
 a4:=Tryz.isAgg4
 z4:=Tryz.sizeOf4
 v4:=Tryz.zeroValue4
 t9:=Tryz.underlying9
 a9:=Tryz.isAgg9
 z9:=Tryz.sizeOf9
 v9:=Tryz.zeroValue9
 t24:=Tryz.underlying55
 a24:=Tryz.isAgg55
 z24:=Tryz.sizeOf55
 v24:=Tryz.zeroValue55
 i9:=by kernel_rfl}
open Go.RowKit Go.Lib Go.Sort in
theorem Tryz.slices_Delete_string(blk off cap i j:Nat)(zs:List (List UInt8))(w:World)(hH:Holds encStr w blk off zs.toArray)(hcap:zs.length<=cap)(hm:cap<=9223372036854775807)(hij:i<=j)(hj:j<=zs.length):
  Calls Tryz.prog 232 #[.slice (some ⟨blk,off,none⟩) zs.length cap,.int .i64 i,.int .i64 j] w fun e w'=>e= .returned (.slice (some ⟨blk,off,none⟩) (zs.length - (j - i)) cap)/\ ∃q,w'=putRow encStr (Sort.ahead w q) blk off (zs.take i++zs.drop j++List.replicate (j - i) []).toArray:=Any.slices_Delete_string Tryz.laysNm224 blk off cap i j zs w hH hcap hm hij hj
open Go.RowKit Go.Sort in
theorem Tryz.slices_Sort_string_none(p:Option Addr)(cap:Nat)(w:World):
  Calls Tryz.prog 93 #[.slice p 0 cap] w fun e w'=>e= .returned (.tuple #[])/\w'=w:=Any.slices_Sort_string_none Tryz.lays190 p cap w
def Tryz.lays196_ren:Go.Shelf.Ren:=⟨fun|196=>262|259=>273|n=>n,fun|9=>9|4=>4|3=>3|5=>5|12=>12|119=>209|0=>0|46=>223|139=>369|138=>368|53=>169|n=>n,fun|3=>3|4=>4|n=>n⟩
theorem Tryz.lays196:Go.Proofs.Lays.n196 Tryz.prog Tryz.lays196_ren:={
 mixed:=by kernel_rfl
 f196:=Tryz.func262.trans (congrArg some (by kernel_rfl))
 f259:=Tryz.func273.trans (congrArg some (by kernel_rfl))
 t0:=Tryz.underlying0
 a0:=Tryz.isAgg0
 z0:=Tryz.sizeOf0
 v0:=Tryz.zeroValue0
 t3:=Tryz.underlying3
 a3:=Tryz.isAgg3
 z3:=Tryz.sizeOf3
 v3:=Tryz.zeroValue3
 t4:=Tryz.underlying4
 a4:=Tryz.isAgg4
 z4:=Tryz.sizeOf4
 v4:=Tryz.zeroValue4
 t5:=Tryz.underlying5
 a5:=Tryz.isAgg5
 z5:=Tryz.sizeOf5
 v5:=Tryz.zeroValue5
 t9:=Tryz.underlying9
 a9:=Tryz.isAgg9
 z9:=Tryz.sizeOf9
 v9:=Tryz.zeroValue9
 t12:=Tryz.underlying12
 a12:=Tryz.isAgg12
 z12:=Tryz.sizeOf12
 v12:=Tryz.zeroValue12
 t46:=Tryz.underlying223
 a46:=Tryz.isAgg223
 z46:=Tryz.sizeOf223
 v46:=Tryz.zeroValue223
 t53:=Tryz.underlying169
 a53:=Tryz.isAgg169
 z53:=Tryz.sizeOf169
 v53:=Tryz.zeroValue169
 t119:=Tryz.underlying209
 a119:=Tryz.isAgg209
 z119:=Tryz.sizeOf209
 t138:=Tryz.underlying368
 a138:=Tryz.isAgg368
 z138:=Tryz.sizeOf368
 v138:=Tryz.zeroValue368
 t139:=Tryz.underlying369
 a139:=Tryz.isAgg369
 z139:=Tryz.sizeOf369
 v139:=Tryz.zeroValue369
 g3:=by kernel_rfl
 g4:=by kernel_rfl}
def Tryz.sorted226_ren:Go.Shelf.Ren:=⟨fun|6=>226|8=>250|9=>93|11=>269|13=>124|12=>123|23=>166|24=>167|14=>157|15=>158|16=>159|17=>160|18=>161|19=>162|20=>163|21=>164|22=>165|25=>197|26=>198|27=>199|28=>200|29=>201|30=>202|31=>234|n=>n,fun|26=>9|28=>333|24=>55|0=>0|3=>3|37=>223|48=>262|50=>169|4=>4|40=>269|39=>268|45=>166|5=>5|9=>9|51=>311|55=>315|57=>341|58=>342|33=>118|n=>n,fun|n=>n⟩
theorem Tryz.sorted226:Go.Proofs.SlLaysZ.n6 Tryz.prog Tryz.sorted226_ren:={
 mixed:=by kernel_rfl
 f6:=⟨Tryz.f226.name,by decide,Tryz.func226.trans (congrArg some (by kernel_rfl))⟩
 f8:=⟨Tryz.f250.name,by decide,Tryz.func250.trans (congrArg some (by kernel_rfl))⟩
 f11:=⟨Tryz.f269.name,by decide,Tryz.func269.trans (congrArg some (by kernel_rfl))⟩
 t0:=Tryz.underlying0
 a0:=Tryz.isAgg0
 z0:=Tryz.sizeOf0
 v0:=Tryz.zeroValue0
 t24:=Tryz.underlying55
 a24:=Tryz.isAgg55
 z24:=Tryz.sizeOf55
 v24:=Tryz.zeroValue55
 t26:=Tryz.underlying9
 a26:=Tryz.isAgg9
 z26:=Tryz.sizeOf9
 v26:=Tryz.zeroValue9
 t28:=Tryz.underlying333
 a28:=Tryz.isAgg333
 z28:=Tryz.sizeOf333
 v28:=Tryz.zeroValue333
 i26:=by kernel_rfl}
end Go.Proofs
end
noncomputable section
set_option maxRecDepth 100000
namespace Go.Fl
open Go Go.Proofs Go.RowKit Go.Maps Go.Sort Go.Shelf
variable {P:Program}{ρ:Ren}
def w1t(F:Fence)(n:Nat)(P:Program)(g:Nat)(lb:Array Value)(ss:List (List UInt8))(w:World):Prop:=
 ∀(l:Nat) (J:List (List UInt8)->World->Prop) (W:World),Below w.heap.size w W->AbidesFrom W.heap.size J->(∀pre W1,J pre W1->Below w.heap.size w W1)->
  (∀pre x W1,J pre W1->pre.length<ss.length->YieldAt F (n - 1) P l #[encStr x] W1 fun e W'=>e= .returned (.bool true)/\J (pre++[x]) W'/\KeepsWalks W1 W')->
  J [] W->CallsIn F n P g (#[.func (.yield l) #[] #[]]++lb) W fun e W'=>(∃v,e= .returned v)/\J ss W'
theorem z91{W:World}{base j:Nat}{e:TypeId}{v:Value}{k:Nat}{xs:List Value}{o:Obj}(h:W.ownsRow base e 1 v k xs)(hj:W.heap[j]? =some o)(hno: ∀cur,o≠ .cells cur e (0,0))(o':Obj):(W.putObj j o').ownsRow base e 1 v k xs:=
 h.kept (grownBy_putObj_a W j o') (ownsRow_ne_a h hj hno)
set_option maxHeartbeats 2000000 in
theorem z6u(L:SlLaysZ.n11 P ρ)(F:Fence)(n:Nat)(hf:F.fn (ρ.f 11))(hro:F.round=none)(hn:2<=n)(g:Nat)(lb:Array Value)(hg:F.fn g)(eg: ∀args w,(callFunc g args).run P w= .ok (.enter g args) w)
  (ss:List (List UInt8))(hN:ss.length<=maxLen)(hNb:ss.length*16<=140737488355328)(w:World)(hseq:w1t F (n - 1) P g lb ss w):
  CallsIn F n P (ρ.f 11) #[.slice none 0 0,.func (.func g) #[] lb] w fun e w'=> ∃v,e= .returned v/\w'.ownsRow w.heap.size (ρ.t 26) 1 v ss.length (ss.map encStr)/\Below w.heap.size w w':=by
 have mixed:=L.mixed;have t0:=L.t0;have a0:=L.a0;have z0:=L.z0;have v0:=L.v0;have t24:=L.t24;have a24:=L.a24;have z24:=L.z24;have v24:=L.v24;have t26:=L.t26;have a26:=L.a26;have z26:=L.z26;have v26:=L.v26
 have u0:=run_underlying L.t0;have u24:=run_underlying L.t24;have u26:=run_underlying L.t26
 have apart:ρ.t 24≠ρ.t 26:=fun e=>by have h:=L.t24;rw[e,L.t26] at h;cases h
 obtain⟨_,_,body⟩:=L.f11
 refine callsIn_of_wp_marks body rfl hf ?_ hro
 simp only[SlBodyZ.n11_ntmps ρ,List.size_toArray,List.length_cons,List.length_nil,Nat.reduceAdd,Nat.reduceSub,Array.replicate_succ,Array.replicate_zero,List.push_toArray,List.append_toArray,List.nil_append,List.cons_append]
 gi_wp2
 refine wpIn_rangeFunc fun fn hfn=> ?_
 rw[hro]
 generalize hA:w.alloc (.cells #[.slice none 0 0] (ρ.t 24))=A
 have sA:A.heap.size=w.heap.size+1:=by rw[←hA];simp
 have bA:Below w.heap.size w A:=by rw[←hA];exact (Below.refl _ w).alloc (Nat.le_refl _) _
 have xA:A.heap[w.heap.size]? =some (.cells #[.slice none 0 0] (ρ.t 24) (0,0)):=by rw[←hA];exact World.alloc_heap_new w _
 generalize hrec:AnyZ.apRec ρ fn (.func (.func g) #[] lb) w.heap.size A.heap.size .ready none=rec
 generalize hB:(A.alloc (.deferred (some []))).alloc (.loop rec)=B
 have oldB: ∀k,k<A.heap.size->B.heap[k]? =A.heap[k]? :=fun k hk=>by rw[←hB];exact (Below.heap_alloc _ _ k (by simp;omega)).trans (Below.heap_alloc _ _ k hk)
 have bB:Below w.heap.size w B:=by rw[←hB];exact (bA.alloc bA.size _).alloc (by have:=bA.size;simp;omega) _
 have dB:B.heap[A.heap.size]? =some (.deferred (some [])):=by rw[←hB];exact (Below.heap_alloc _ _ _ (by simp)).trans (World.alloc_heap_new A _)
 have lB:B.heap[A.heap.size+1]? =some (.loop rec):=by rw[←hB];have:=World.alloc_heap_new (A.alloc (.deferred (some []))) (.loop rec);rwa [World.size_alloc] at this
 have start:AnyZ.ApAt ρ w fn (.func (.func g) #[] lb) w.heap.size (A.heap.size+1) A.heap.size [] B:=
  ⟨⟨_,(oldB _ (by omega)).trans xA,⟨rfl,.inl ⟨rfl,rfl⟩⟩,by simp⟩,by rw[hrec];exact lB,dB,bB⟩
 refine⟨A.heap.size+1,[{target:= .collected A.heap.size,args:= #[]}],B,{target:= .fn (.func g) lb,args:= #[.func (.yield (A.heap.size+1)) #[] #[]]},B,g,#[.func (.yield (A.heap.size+1)) #[] #[]]++lb,B,?_,?_,?_,?_,fun _=>(by omega),?_⟩
 ·rw[←hB,←hrec];exact run_enterLoop_outer _ _ _ _ _
 ·simp[resolve,go_sem]
 ·intro f' h';simp[Target.leads] at h';exact h'▸hg
 ·simp[invoke,go_sem,eg]
 refine (hseq _ (AnyZ.ApAt ρ w fn (.func (.func g) #[] lb) w.heap.size (A.heap.size+1) A.heap.size) B bB (AnyZ.ap_abides ρ _ _ _ _ _ _ _ bB.size) (fun _ _ h=>h.below)
  (fun pre x W h hl=>AnyZ.apYield {L with} F _ w fn hfn _ _ _ _ (by omega) (by omega) (by omega) (Nat.le_refl _) (by omega) ss.length hN hNb pre x W h hl) start).mono ?_
 rintro e C ⟨⟨_,rfl⟩,hC⟩
 obtain⟨v,hv,hrow,_⟩:=hC.box
 have hend:=run_endLoop (P:=P) hC.L (by simp[AnyZ.apRec])
 generalize hD:C.putObj (A.heap.size+1) (.loop {AnyZ.apRec ρ fn (.func (.func g) #[] lb) w.heap.size A.heap.size .ready none with state:= .exhausted})=D at hend
 have rowD:D.ownsRow w.heap.size (ρ.t 26) 1 v ss.length (ss.map encStr):=by rw[←hD];exact z91 hrow hC.L (fun _ h=>by cases h) _
 have boxD:D.heap[w.heap.size]? =some (.cells #[v] (ρ.t 24) (0,0)):=by rw[←hD];exact (World.putObj_heap_other (by omega)).trans hv
 have defD:D.heap[A.heap.size]? =some (.deferred (some [])):=by rw[←hD];exact (World.putObj_heap_other (by omega)).trans hC.K
 have belD:Below w.heap.size w D:=by rw[←hD];exact hC.below.grown (grownBy_putObj_a _ _ _) hC.below.size (fun k h=>by cases h;omega)
 obtain⟨cellD,markD⟩:=cell_of_box_a boxD
 clear hD
 refine⟨none,D,hend,?_⟩
 gi_wp2
 rw[←sA]
 refine⟨by simp,.inl ⟨_,_,rfl,run_takeDeferred defD,?_⟩⟩
 exact⟨_,results_tmp rfl _ _ _,v,rfl,z91 rowD defD (fun _ h=>by cases h) _,belD.grown (grownBy_putObj_a _ _ _) belD.size (fun k h=>by cases h;omega)⟩
end Go.Fl
end
noncomputable section
set_option maxRecDepth 100000
namespace Go.Proofs.YtjepffgpbidclaaGreatDoor
open Go Go.Proofs Go.RowKit Go.Fl Go.Maps Go.Sort Go.Shelf
attribute [local go_sem] Oper.semAt_some
set_option maxHeartbeats 2000000 in
theorem j5n(n:Nat)(hn:1<=n)(w W:World)(l Bs b off cap:Nat)(zs:List (List UInt8))(hreach:zs.length<=140737488355328)(hBs:Bs<w.heap.size)(hb:b<w.heap.size)(J:List (List UInt8)->World->Prop)
  (hJ: ∀pre W1,J pre W1->Below w.heap.size w W1)(hc:w.cell? ⟨Bs,0,none⟩=some (.slice (some ⟨b,off,none⟩) zs.length cap))(hcs: ∀j,j<zs.length->w.cell? ⟨b,off+j,none⟩=some (encStr (zs[j]?.getD [])))
  (hY: ∀pre x W1,J pre W1->pre.length<zs.length->YieldAt Fence.wide (n - 1) Tryz.prog l #[encStr x] W1 fun e W'=>e= .returned (.bool true)/\J (pre++[x]) W'/\KeepsWalks W1 W')(h0:J [] W):
  CallsIn Fence.wide n Tryz.prog 251 #[.func (.yield l) #[] #[],.pointer (some ⟨Bs,0,none⟩)] W fun e W'=>(∃v,e= .returned v)/\J zs W':=by
 have hc0:=((hJ _ _ h0).cell (p:=⟨Bs,0,none⟩) hBs).trans hc
 refine callsIn_of_wp Tryz.func251 rfl trivial ?_ rfl
 simp only[Tryz.ntmps251,List.size_toArray,List.length_cons,List.length_nil,Nat.reduceAdd,Nat.reduceSub,Array.replicate_succ,Array.replicate_zero,List.push_toArray,List.append_toArray,List.nil_append,List.cons_append]
 gi_wp2
 gi_loopw [7] (fun i wr=> ∃k:Nat,k<=zs.length/\i= .int .i64 k/\J (zs.take k) wr) (fun i _=>zs.length - (intOf i).toNat)
 case atStart=>exact⟨0,Nat.zero_le _,rfl,h0⟩
 case round=>
  obtain⟨k,hk,rfl,hJk⟩:=hrel
  by_cases hlt:k<zs.length
  ·have hck:=((hJ _ _ hJk).cell (p:=⟨b,off+k,none⟩) hb).trans (hcs k hlt)
   obtain⟨fn,tmps,assign,body,hy,hR⟩:=hY _ zs[k] wr hJk (by rw[List.length_take];omega)
   gi_wp2
   refine hR.mono ?_
   rintro e W3 ⟨rfl,hJ3,_⟩
   gi_wp2
   go_roundw
   case rel=>exact⟨k+1,by omega,by simp,by rw[List.take_succ_eq_append_getElem hlt];exact hJ3⟩
   case measure=>simp[intOf];omega
  ·obtain rfl:k=zs.length:=by omega
   rw[List.take_length] at hJk
   gi_wp2
   go_end0
   exact⟨⟨_,rfl⟩,hJk⟩
set_option maxHeartbeats 2000000 in
theorem j5o(n:Nat)(w W:World)(l Bs cap:Nat)(a:Option Addr)(hBs:Bs<w.heap.size)(J:List (List UInt8)->World->Prop)(hJ: ∀pre W1,J pre W1->Below w.heap.size w W1)(hc:w.cell? ⟨Bs,0,none⟩=some (.slice a 0 cap))(h0:J [] W):
  CallsIn Fence.wide n Tryz.prog 251 #[.func (.yield l) #[] #[],.pointer (some ⟨Bs,0,none⟩)] W fun e W'=>(∃v,e= .returned v)/\J [] W':=by
 have hc0:=((hJ _ _ h0).cell (p:=⟨Bs,0,none⟩) hBs).trans hc
 refine callsIn_of_wp Tryz.func251 rfl trivial ?_ rfl
 simp only[Tryz.ntmps251,List.size_toArray,List.length_cons,List.length_nil,Nat.reduceAdd,Nat.reduceSub,Array.replicate_succ,Array.replicate_zero,List.push_toArray,List.append_toArray,List.nil_append,List.cons_append]
 gi_wp2
 gi_loopw [7] (fun i wr=>i= .int .i64 0/\J [] wr) (fun _ _=>0)
 case atStart=>exact⟨rfl,h0⟩
 case round=>
  obtain⟨rfl,hJs⟩:=hrel
  gi_wp2
  go_end0
  exact⟨⟨_,rfl⟩,hJs⟩
theorem v3o{σ:Hv}{w:World}(Bs:Nat)(v:Value)(l:List ByteArray)(hV:View σ w)(hB:σ Bs=some (.cells #[v] 55 (0,0)))(hr:RSl 1 (REnc Qe) σ v l)(hs:Sml l.length):
  Calls Tryz.prog 269 #[.slice none 0 0,.func (.func 251) #[] #[.pointer (some ⟨Bs,0,none⟩)]] w fun e w1=> ∃v1,e= .returned v1/\Grow [] σ w σ w1/\((vec v1 9 1 l.length (l.flatMap Qe)).ok w1/\ ∀k,(vec v1 9 1 l.length (l.flatMap Qe)).foot=some k->w.heap.size<=k/\σ k=none):=by
 have hBw:=hV _ _ hB
 have hBl:=lt_of_block hBw
 have hBc:w.cell? ⟨Bs,0,none⟩=some v:=by simp[World.cell?,hBw]
 have hlen:(l.map (·.data.toList)).length=l.length:=List.length_map _
 have hgive:w1t Fence.wide 2 Tryz.prog 251 #[.pointer (some ⟨Bs,0,none⟩)] (l.map (·.data.toList)) w:=by
  intro lp J W _ _ hJB hY h0
  obtain⟨a,cap,rfl,h1,h2,hel⟩:=hr
  cases hl0:l with
  |nil=>
   subst hl0
   exact j5o 2 w W lp Bs cap a hBl J hJB hBc h0
  |cons x l'=>
   obtain⟨ad,cs,rfl,_,hrow0,hcs0⟩:=hel 0 x (by rw[hl0];rfl)
   have cell0:=(hrow0.row hV) 0 _ (by rw[hcs0];rfl)
   obtain⟨ab,ao,asp⟩:=ad
   have hsp:asp=none:=by
    cases asp with
    |none=>rfl
    |some s=>
     have:=hrow0 0 (.string x) (by rw[hcs0];rfl)
     simp[Hv.cell,Addr.add] at this
     split at this<;>simp at this
   subst hsp
   have hbl:ab<w.heap.size:=by
    have:=hrow0 0 (.string x) (by rw[hcs0];rfl)
    simp only[J7] at this
    unfold Hv.cell at this
    simp only at this
    cases hq:σ ab with
    |none=>rw[hq] at this;simp at this
    |some o=>exact lt_of_block (hV _ _ hq)
   rw[←hl0]
   have hcome:=j5n 2 (by omega) w W lp Bs ab ao cap (l.map (·.data.toList)) (by rw[hlen];exact h2) hBl hbl J hJB (by rw[hlen];exact hBc) (fun j hj=>by
    rw[hlen] at hj
    obtain⟨y,hy⟩:=getq hj
    obtain⟨ad',cs',had,_,hrow,hcs⟩:=hel j y hy
    cases had
    have hc:=(hrow.row hV) 0 (.string y) (by rw[hcs];rfl)
    rw[Gy,J7] at hc
    rw[List.getElem?_map,hy]
    simpa [encStr] using hc) hY h0
   exact hcome
 refine (callsIn_wide (n:=3)).1 ((z6u (ρ:=Tryz.sorted226_ren) {Tryz.sorted226 with} Fence.wide 3 trivial rfl (by omega) 251 _ trivial (enters_of Tryz.func251 (by kernel_rfl) rfl) (l.map (·.data.toList)) (by rw[hlen];exact (B9 hs (show 16<=32768 by omega)).2) (by rw[hlen];exact (B9 hs (by omega)).1) w hgive).mono ?_)
 rintro e w1 ⟨v1,rfl,hown,hbel⟩
 rw[hlen] at hown
 have hfl:(l.map (·.data.toList)).map encStr=l.flatMap Qe:=(Uy l).symm
 rw[hfl] at hown
 have hsame: ∀b,b<w.heap.size->w1.heap[b]? =w.heap[b]? :=fun b hb=>hbel.block b hb
 refine⟨v1,rfl,⟨⟨hbel.os,hbel.tape,hbel.output,hbel.size,fun k hk _=>hbel.block k hk⟩,fun b o hb=>(hbel.block b (lt_of_block (hV b o hb))).trans (hV b o hb),.refl _,fun _ _ _=>rfl⟩,?_,?_⟩
 ·exact⟨hown.1,hown.2.imp id fun ⟨g,cap,cur,e1,_,e3⟩=>⟨g,cap,cur,e1,Nat.zero_le _,e3⟩⟩
 ·intro k hk
  have hge:w.heap.size<=k:=(hown.lt k hk).1
  refine⟨hge,?_⟩
  cases hq:σ k with
  |none=>rfl
  |some o=>have:=lt_of_block (hV k o hq);omega
end Go.Proofs.YtjepffgpbidclaaGreatDoor
end
noncomputable section
set_option maxRecDepth 100000
namespace Go.Proofs.YtjepffgpbidclaaGreatDoor
open Go Go.Proofs Go.RowKit Go.Fl
set_option maxHeartbeats 2000000 in
theorem Bi{σ:Hv}{w:World}(s_p:(List ByteArray))(v1:Value){K:(List ByteArray)->Prop}(hV:View σ w)(hr1:RSl 1 (REnc Qe) σ v1 s_p)(hP:Q2 s_p K):
    Calls Tryz.prog 156 #[v1] w (fun e w1=> ∃(r1:(List ByteArray)) (v2:Value),e= .returned v2/\St ⟨w,σ,[]⟩ w1 σ [vec v2 9 1 r1.length ((r1).flatMap Qe)]/\Sml r1.length/\K r1):=by
 unfold Q2 at hP
 obtain⟨a1,cap1,rfl⟩:=hr1.shape
 refine enter Tryz.func156 rfl rfl rfl ?_
 have hS:=St.start hV
 refine Qn (Qo (v:=(.slice none 0 0)) rfl (wpList_nil (Qj (wp_seq (Qn (Qz (v:=(.slice a1 s_p.length cap1)) rfl ?_))))))
 replace hP:=hP a1.isNone (RSl.isNil hr1)
 obtain⟨r1_,hn1⟩: ∃r:Bool,a1.isNone=r:=⟨_,rfl⟩
 rw[hn1] at hP
 refine w4l Tryz.underlying55 rfl hn1 (wpList_nil (Qj ?_))
 refine if_b rfl (fun ht1=> ?_) (fun ht1=> ?_)
 ·
  replace hP:=hP.1 ht1
  refine Qn (Qo (v:=(.slice none 0 0)) rfl (wpList_nil (Qj (wp_ret (Gb (ret1 rfl (show ev _ _ _=(.slice none 0 0) from rfl) ?_))))))
  have hS1:=hS.addNil 9 1
  exact⟨[],(.slice none 0 0),rfl,(St.back hS1 (Sub.refl _)),(by simp[Sml]),hP⟩
 ·
  replace hP:=hP.2 (by first|(rw[ht1];exact Bool.false_ne_true)|simp[ht1])
  refine wp_skip (Qj (Qn (z41 (cs:=[]) (e:=9) hS (fun _=>by kernel_rfl) ?_)))
  intro b1 w1 hS2
  refine Qz (v:=(.slice a1 s_p.length cap1)) rfl ?_
  have hS3:=hS2.asVec (i:=0) (ms':=[vec (.slice (some ⟨b1,0,none⟩) 0 0) 9 1 0 []]) (size:=1) rfl rfl (by unfold maxLen;omega) rfl
  obtain⟨hsm1,hP⟩:=hP
  refine v0r (enc:=Qe) (l:=s_p) (Ms:=fun v3=>[vec v3 9 1 s_p.length ((s_p).flatMap Qe)]) (k':=s_p.length) (xs':=(s_p).flatMap Qe) Tryz.underlying55 Tryz.type9 rfl rfl (bytes:=16) rfl rfl (Nat.succ_pos _) hS3 rfl (q:=0) rfl rfl hr1 hS3.view B7 j9y hsm1 (by omega) (by first|rfl|exact List.length_append.symm|simp) (List.nil_append _) (fun _=>rfl) ?_
  intro v3 w2 ho1 hS4
  refine Qo (v:=v3) rfl (wpList_nil (Qj (wp_ret (ret1 rfl (show ev _ _ _=v3 from rfl) ?_))))
  exact⟨s_p,v3,rfl,(St.back hS4 (Sub.refl _)),hsm1,hP⟩
set_option maxHeartbeats 2000000 in
theorem Bj{σ:Hv}{w:World}(s_p:(List ByteArray))(v_p:ByteArray)(v1:Value){K:Int->Prop}(hV:View σ w)(hr1:RSl 1 (REnc Qe) σ v1 s_p)(hP:Q3 s_p v_p K):
    Calls Tryz.prog 180 #[v1,(.string v_p)] w (fun e w1=> ∃(r1:Int),e= .returned (.int .i64 r1)/\Grow [] σ w σ w1/\K r1):=by
 unfold Q3 at hP
 obtain⟨a1,cap1,rfl⟩:=hr1.shape
 refine enter Tryz.func180 rfl rfl rfl ?_
 have hS:=St.start hV
 refine Qn (Qo (v:=(.int .i64 (0:Int))) rfl (wpList_nil (Qj (wp_seq (Qn (Qz (v:=(.slice a1 s_p.length cap1)) rfl (q4z rfl Tryz.underlying55 ?_)))))))
 have hlen1:=RSl.len63 hr1
 replace hP:=hP hlen1
 refine Qz (v:=(.int .i64 (0:Int))) rfl (wpList_nil (Qj (wp_block ?_)))
 refine j0g (fun k_2 f z=> ∃(σ1:Hv) (g:Fr),f=(upd (upd (upd (upd g 0 (.slice a1 s_p.length cap1)) 1 (.string v_p)) 7 (.int .i64 ((s_p.length:Nat):Int))) 8 (.int .i64 ((k_2:Nat):Int)))/\St ⟨w,σ,[]⟩ z σ1 []/\Sub σ σ1) hP ⟨σ,_,(Zh rfl (Zh rfl (Zh rfl (Zh rfl rfl)))),hS,(Sub.refl _)⟩ ?_
 clear hP
 rintro k_2 Y1 hP f w1 ⟨σ1,g,rfl,hS1,hsub1⟩
 refine Qn (j9o (r:=(decide (((k_2:Nat):Int)<((s_p.length:Nat):Int)))) rfl rfl rfl (wpList_nil (Qj (wp_seq ?_))))
 refine if_d (((k_2:Nat):Int)<((s_p.length:Nat):Int)) rfl (fun ht1=> ?_) (fun ht1=> ?_)
 ·
  replace hP:=hP.1 ht1
  refine wp_skip (Qj (wp_seq (wp_block (Qn (Qz (v:=(.int .i64 ((k_2:Nat):Int))) rfl (Qo (v:=(.int .i64 ((k_2:Nat):Int))) rfl (wpList_nil (Qj (Qn (Qz (v:=(.string v_p)) rfl (Qz (v:=(.slice a1 s_p.length cap1)) rfl (Qz (v:=(.int .i64 ((k_2:Nat):Int))) rfl ?_))))))))))))
  obtain⟨x1_,hx1⟩:=getq (l:=s_p) (k:=k_2) (by have:=ht1;omega)
  replace hP:=hP x1_ hx1
  obtain⟨ad1,cs1,ha1,hl1,hr2,hR1,hlt1⟩:=RSl.at hr1 hx1
  cases hR1
  refine Ux (k:=k_2) (a':=(ad1.add (k_2*1))) (congrArg (fun z=>Value.slice z _ _) ha1) rfl rfl hlt1 Tryz.underlying55 Tryz.sizeOf9 rfl (q2b (v:=(.string x1_)) rfl Tryz.isAgg9 (hr2.cell (View.of hsub1 hS1.view) 0 rfl rfl) (v0k (r:=(decide (v_p=x1_))) rfl rfl rfl (wpList_nil (Qj ?_))))
  refine if_d (v_p=x1_) rfl (fun ht2=> ?_) (fun ht2=> ?_)
  ·
   replace hP:=hP.1 ht2
   refine Qn (Qz (v:=(.int .i64 ((k_2:Nat):Int))) rfl (Qo (v:=(.int .i64 ((k_2:Nat):Int))) rfl (wpList_nil (Qj (wp_ret (z4a (Gb (Gb (z4a (Gb (ret1 rfl (show ev _ _ _=(.int .i64 ((k_2:Nat):Int)) from rfl) ?_)))))))))))
   exact⟨((k_2:Nat):Int),rfl,hS1.done.forget,hP⟩
  ·
   replace hP:=hP.2 ht2
   refine wp_skip (j78 (Qj (z19 (j77 (r:=((k_2+1:Nat):Int)) rfl rfl (nw (by omega) (by omega) (by have:=hlen1;omega)) (Qz (v:=(.int .i64 ((k_2+1:Nat):Int))) rfl (wpList_nil (Qj ?_)))))))
   exact⟨k_2+1,_,rfl,hP,σ1,_,(Zh rfl (Zh rfl (Zh rfl (Zh rfl rfl)))),hS1,hsub1⟩
 ·
  replace hP:=hP.2 ht1
  refine wp_exit (q82 (q82 (z5r (Qj (Qn (Qo (v:=(.int .i64 (-1:Int))) rfl (wpList_nil (Qj (wp_ret (ret1 rfl (show ev _ _ _=(.int .i64 (-1:Int)) from rfl) ?_))))))))))
  exact⟨(-1:Int),rfl,hS1.done.forget,hP⟩
set_option maxHeartbeats 2000000 in
theorem J0{σ:Hv}{w:World}(s_p:(List ByteArray))(v_p:ByteArray)(v1:Value){K:Bool->Prop}(hV:View σ w)(hr1:RSl 1 (REnc Qe) σ v1 s_p)(hP:Qr s_p v_p K):
    Calls Tryz.prog 142 #[v1,(.string v_p)] w (fun e w1=> ∃(r1:Bool),e= .returned (.bool (r1))/\Grow [] σ w σ w1/\K r1):=by
 unfold Qr at hP
 obtain⟨a1,cap1,rfl⟩:=hr1.shape
 refine enter Tryz.func142 rfl rfl rfl ?_
 have hS:=St.start hV
 refine Qn (Qo (v:=(.bool false)) rfl (wpList_nil (Qj (Qn (Qz (v:=(.slice a1 s_p.length cap1)) rfl (Qz (v:=(.string v_p)) rfl ?_))))))
 obtain⟨Y1,hK1,hc1⟩:=hP
 refine q3c (args:=[(.slice a1 s_p.length cap1),(.string v_p)]) rfl Tryz.call180 (Calls.mono (Bj s_p v_p (.slice a1 s_p.length cap1) hS.view hr1 hc1) ?_)
 rintro _ w1 ⟨r1_,rfl,hg1,hY1⟩
 refine⟨_,rfl,?_⟩
 have hS1:=hS.grow hg1
 replace hP:=hK1 r1_ hY1
 refine v0j (r:=(decide ((0:Int)<=r1_))) rfl rfl rfl (Qo (v:=(.bool (decide ((0:Int)<=r1_)))) rfl (wpList_nil (Qj (wp_ret (ret1 rfl (show ev _ _ _=(.bool (decide ((0:Int)<=r1_))) from rfl) ?_)))))
 exact⟨(decide ((0:Int)<=r1_)),rfl,hS1.done.forget,hP⟩
set_option maxHeartbeats 2000000 in
theorem w_graph_Order{σ:Hv}{w:World}(nodes_p:(List ByteArray))(edges_p:(List (ByteArray×ByteArray)))(v1:Value)(v2:Value){K:(List ByteArray)->Int->Prop}(hV:View σ w)(hr1:RSl 1 (REnc Qe) σ v1 nodes_p)(hr2:RSl 2 (REnc v0s) σ v2 edges_p)(hP:P_graph_Order nodes_p edges_p K):
    Calls Tryz.prog 191 #[v1,v2] w (fun e w1=> ∃(r1:(List ByteArray)) (r2:Int) (v3:Value),e= .returned (.tuple #[v3,(.int .i64 r2)])/\St ⟨w,σ,[]⟩ w1 σ [vec v3 9 1 r1.length ((r1).flatMap Qe)]/\Sml r1.length/\K r1 r2):=by
 unfold P_graph_Order at hP
 obtain⟨a1,cap1,rfl⟩:=hr1.shape
 obtain⟨a2,cap2,rfl⟩:=hr2.shape
 refine enter Tryz.func191 rfl rfl rfl ?_
 have hS:=St.start hV
 refine Qn (Qo (v:=(.slice none 0 0)) rfl (Qo (v:=(.int .i64 (0:Int))) rfl (wpList_nil (Qj (Qn (Qz (v:=(.slice a1 nodes_p.length cap1)) rfl (q3c (args:=[(.slice a1 nodes_p.length cap1)]) rfl Tryz.call227 ?_)))))))
 refine enter Tryz.func227 rfl rfl rfl ?_
 refine Qn (v2q (cs:=[(.slice a1 nodes_p.length cap1)]) hS rfl rfl ?_)
 intro b1 w1 hS1
 refine Qo (v:= .nilFunc) rfl (wpList_nil (Qj (Qn (z2a (la:=[]) (lb:=[(.pointer (some ⟨b1,0,none⟩))]) rfl rfl (Qo (v:=(.func (.func 251) #[] #[(.pointer (some ⟨b1,0,none⟩))])) rfl (wpList_nil (Qj (wp_ret (ret1 rfl (show ev _ _ _=(.func (.func 251) #[] #[(.pointer (some ⟨b1,0,none⟩))]) from rfl) ?_)))))))))
 refine⟨_,rfl,?_⟩
 refine q3c (args:=[(.func (.func 251) #[] #[(.pointer (some ⟨b1,0,none⟩))])]) rfl Tryz.call226 ?_
 refine enter Tryz.func226 rfl rfl rfl ?_
 refine Qn (Qo (v:=(.slice none 0 0)) rfl (wpList_nil (Qj (Qn (Qz (v:=(.func (.func 251) #[] #[(.pointer (some ⟨b1,0,none⟩))])) rfl (q3c (args:=[(.func (.func 251) #[] #[(.pointer (some ⟨b1,0,none⟩))])]) rfl Tryz.call250 ?_))))))
 refine enter Tryz.func250 rfl rfl rfl ?_
 refine Qn (Qo (v:=(.slice none 0 0)) rfl (wpList_nil (Qj (Qn (Qz (v:=(.func (.func 251) #[] #[(.pointer (some ⟨b1,0,none⟩))])) rfl ?_)))))
 obtain⟨σ1,hS2,hsub1,hfr1⟩:=hS1.freeze' (i:=0) rfl rfl
 have hB1:σ1 b1=some (.cells #[(.slice a1 nodes_p.length cap1)] 55 (0,0)):=(hfr1 _ rfl).trans (hS1.get (i:=0) rfl)
 obtain⟨hsm1,hP⟩:=hP
 refine q3c (args:=[(.slice none 0 0),(.func (.func 251) #[] #[(.pointer (some ⟨b1,0,none⟩))])]) rfl Tryz.call269 (Calls.mono (v3o b1 (.slice a1 nodes_p.length cap1) nodes_p hS2.view hB1 (RSl.menc hsub1 hr1) hsm1) ?_)
 rintro _ w2 ⟨v4,rfl,hg1,ho1⟩
 refine⟨_,rfl,?_⟩
 have hS3:=hS2.growAdd hg1 (o:=vec v4 9 1 nodes_p.length ((nodes_p).flatMap Qe)) ho1
 refine Qo (v:=v4) rfl (wpList_nil (Qj (wp_ret (ret1 rfl (show ev _ _ _=v4 from rfl) ?_))))
 refine⟨_,rfl,?_⟩
 refine Qo (v:=v4) rfl (wpList_nil (Qj (Qn (Qz (v:=v4) rfl ?_))))
 refine q3c (args:=[v4]) rfl Tryz.call93 (Calls.mono (j6r Tryz.slices_Sort_string Tryz.slices_Sort_string_none hS3.view (hS3.get (i:=0) rfl) rfl (fun b hb=>hS3.off _ (List.mem_of_getElem? (i:=0) rfl) b hb) (by have:=hsm1;unfold Sml at this;omega)) ?_)
 rintro _ w3 ⟨rfl,hg2,ho2⟩
 refine⟨_,rfl,?_⟩
 have hS4:=hS3.growV (i:=0) (o':=vec v4 9 1 nodes_p.length ((srt nodes_p).flatMap Qe)) rfl hg2 rfl ho2 (ms':=[vec v4 9 1 nodes_p.length ((srt nodes_p).flatMap Qe)]) rfl
 have hS5:=hS4.re (ms':=[vec v4 9 1 ((srt nodes_p).length) ((srt nodes_p).flatMap Qe)]) (by simp only[Z2])
 refine wpList_nil (Qj (Qn (Qz (v:=v4) rfl (Qo (v:=v4) rfl (wpList_nil (Qj (wp_ret (ret1 rfl (show ev _ _ _=v4 from rfl) ?_))))))))
 refine⟨_,rfl,?_⟩
 refine Qo (v:=v4) rfl (wpList_nil (Qj (wp_seq (Qn (Qz (v:=v4) rfl ?_)))))
 obtain⟨σ2,hS6,hsub2,hr4⟩:=hS5.peek (i:=0) rfl B7 (show Sml (srt nodes_p).length by rw[Z2];exact hsm1)
 obtain⟨Y1,hK1,hc1⟩:=hP
 refine q3c (args:=[v4]) rfl Tryz.call156 (Calls.mono (Bi (srt nodes_p) v4 hS6.view hr4 hc1) ?_)
 rintro _ w4 ⟨r1_,v5,rfl,hg3,hl1,hY1⟩
 refine⟨_,rfl,?_⟩
 have hS7:=St.callM (ins:=[]) (rest:=[vec v4 9 1 ((srt nodes_p).length) ((srt nodes_p).flatMap Qe)]) (ms':=[vec v5 9 1 r1_.length ((r1_).flatMap Qe),vec v4 9 1 ((srt nodes_p).length) ((srt nodes_p).flatMap Qe)]) hS5 (St.back hg3 hsub2) rfl
 replace hP:=hK1 r1_ hY1
 obtain⟨hsm2,hP⟩:=hP
 refine q3c (args:=[v5]) rfl Tryz.call94 (Calls.mono (z5x Tryz.slices_Compact_string Tryz.slices_Compact_string_empty hS7.view (hS7.get (i:=0) rfl) rfl (fun b hb=>hS7.off _ (List.mem_of_getElem? (i:=0) rfl) b hb) (by have:=hl1;unfold Sml at this;omega)) ?_)
 rintro _ w5 ⟨v6,rfl,hf1,hg4,ho3⟩
 refine⟨_,rfl,?_⟩
 have ho4:=Gc ho3
 have hS8:=hS7.growV (i:=0) (o':=vec v6 9 1 ((cpt r1_).length) ((cpt r1_).flatMap Qe)) rfl hg4 hf1 ho3 (ms':=[vec v6 9 1 ((cpt r1_).length) ((cpt r1_).flatMap Qe),vec v4 9 1 ((srt nodes_p).length) ((srt nodes_p).flatMap Qe)]) rfl
 refine z0i hS8 rfl (i:=0) rfl Tryz.underlying55 ?_
 have hlen1:(cpt r1_).length<=9223372036854775807:=by have:=hsm2;unfold Sml at this;omega
 replace hP:=hP hlen1
 refine Qz (v:=v4) rfl (z0i hS8 rfl (i:=1) rfl Tryz.underlying55 ?_)
 have hlen2:(srt nodes_p).length<=9223372036854775807:=by have:=(show Sml (srt nodes_p).length by rw[Z2];exact hsm1);unfold Sml at this;omega
 replace hP:=hP hlen2
 refine v2o (r:=(!decide ((((cpt r1_).length:Nat):Int)=(((srt nodes_p).length:Nat):Int)))) rfl rfl rfl (wpList_nil (Qj ?_))
 refine v0l ((((cpt r1_).length:Nat):Int)=(((srt nodes_p).length:Nat):Int)) rfl (fun ht1=> ?_) (fun ht1=> ?_)
 ·
  replace hP:=hP.2 ht1
  refine Qn (Qo (v:=(.slice none 0 0)) rfl (Qo (v:=(.int .i64 (10:Int))) rfl (wpList_nil (Qj (wp_ret (Gb (ret2 rfl (show ev _ _ _=(.slice none 0 0) from rfl) (show ev _ _ _=(.int .i64 (10:Int)) from rfl) ?_)))))))
  have hS9:=hS8.addNil 9 1
  exact⟨[],(10:Int),(.slice none 0 0),rfl,(St.back (hS9.keep 1 (ms':=[vec (.slice none 0 0) 9 1 0 []]) rfl) (Sub.refl _)),(by simp[Sml]),hP⟩
 ·
  replace hP:=hP.1 ht1
  refine wp_skip (Qj (Qn (j8c 9 1 Qe hS8 ?_)))
  intro b2 w6 hS10
  refine j4x (cs:=[(.map none)]) hS10 Tryz.zeroValue335 rfl ?_
  intro b3 w7 hS11
  refine j4w (T:=335) (vs:=[(.map (some b2))]) (cs':=[(.map (some b2))]) (ms':=(blk b3 335 [(.map (some b2))]::smap b2 (asl [])::vec v6 9 1 ((cpt r1_).length) ((cpt r1_).flatMap Qe)::vec v4 9 1 ((srt nodes_p).length) ((srt nodes_p).flatMap Qe)::Ws 9 1 Qe [])) (i:=0) hS11 rfl rfl rfl Tryz.sizeOf335 rfl (ones rfl) rfl (Nat.le_of_ble_eq_true rfl) rfl rfl ?_
  intro w8 hS12
  refine wpList_nil (Qj (wp_seq (Qn (Qz (v:=(.slice a2 edges_p.length cap2)) rfl (q4z rfl Tryz.underlying278 ?_)))))
  have hlen3:=RSl.len63 hr2
  replace hP:=hP hlen3
  refine Qz (v:=(.int .i64 (0:Int))) rfl (wpList_nil (Qj (wp_block ?_)))
  have hS13:=hS12.front 3 rfl (ms':=(vec v4 9 1 ((srt nodes_p).length) ((srt nodes_p).flatMap Qe)::blk b3 335 [(.map (some b2))]::smap b2 (asl [])::vec v6 9 1 ((cpt r1_).length) ((cpt r1_).flatMap Qe)::Ws 9 1 Qe [])) rfl
  have hS14:=hS13.front 3 rfl (ms':=(vec v6 9 1 ((cpt r1_).length) ((cpt r1_).flatMap Qe)::vec v4 9 1 ((srt nodes_p).length) ((srt nodes_p).flatMap Qe)::blk b3 335 [(.map (some b2))]::smap b2 (asl [])::Ws 9 1 Qe [])) rfl
  have hS15:=hS14.front 2 rfl (ms':=(blk b3 335 [(.map (some b2))]::vec v6 9 1 ((cpt r1_).length) ((cpt r1_).flatMap Qe)::vec v4 9 1 ((srt nodes_p).length) ((srt nodes_p).flatMap Qe)::smap b2 (asl [])::Ws 9 1 Qe [])) rfl
  have hS16:=hS15.front 3 rfl (ms':=(smap b2 (asl [])::blk b3 335 [(.map (some b2))]::vec v6 9 1 ((cpt r1_).length) ((cpt r1_).flatMap Qe)::vec v4 9 1 ((srt nodes_p).length) ((srt nodes_p).flatMap Qe)::Ws 9 1 Qe [])) rfl
  refine w4i (fun k_3 F_2 f z=> ∃(es2:EL ByteArray) (σ3:Hv) (g:Fr),f=(upd (upd (upd (upd (upd g 6 v4) 7 (.pointer (some ⟨b3,0,none⟩))) 24 (.slice a2 edges_p.length cap2)) 25 (.int .i64 ((edges_p.length:Nat):Int))) 26 (.int .i64 ((k_3:Nat):Int)))/\St ⟨w,σ,[]⟩ z σ3 (smap b2 (asl es2)::blk b3 335 [(.map (some b2))]::vec v6 9 1 ((cpt r1_).length) ((cpt r1_).flatMap Qe)::vec v4 9 1 ((srt nodes_p).length) ((srt nodes_p).flatMap Qe)::Ws 9 1 Qe es2)/\Sub σ1 σ3/\ELF es2 F_2) hP ⟨[],σ1,_,(Zh rfl (Zh rfl (Zh rfl (Zh rfl (Zh rfl rfl))))),hS16,(Sub.refl _),ELF.nil⟩ ?_
  clear hP
  rintro k_3 F_2 Y2 hP f w9 ⟨es2,σ3,g,rfl,hS17,hsub3,hF2⟩
  refine Qn (j9o (r:=(decide (((k_3:Nat):Int)<((edges_p.length:Nat):Int)))) rfl rfl rfl (wpList_nil (Qj (wp_seq ?_))))
  refine if_d (((k_3:Nat):Int)<((edges_p.length:Nat):Int)) rfl (fun ht2=> ?_) (fun ht2=> ?_)
  ·
   replace hP:=hP.1 ht2
   refine wp_skip (Qj (wp_seq (wp_block (Qn ?_))))
   obtain⟨x1_,hx1⟩:=getq (l:=edges_p) (k:=k_3) (by have:=ht2;omega)
   replace hP:=hP x1_ hx1
   obtain⟨ad1,cs1,ha1,hl2,hr6,hR1,hlt1⟩:=RSl.at hr2 hx1
   cases hR1
   refine Ux (k:=k_3) (a':=(ad1.add (k_3*2))) (congrArg (fun z=>Value.slice z _ _) ha1) rfl rfl hlt1 Tryz.underlying278 Tryz.sizeOf297 rfl (w7m (cs:=[(.string x1_.1),(.string x1_.2)]) rfl Tryz.isAgg297 Tryz.sizeOf297 rfl (hr6.row (View.of (Sub.trans hsub1 hsub3) hS17.view)) (j4x (cs:=[(.string (⟨#[]⟩:ByteArray)),(.string (⟨#[]⟩:ByteArray))]) hS17 Tryz.zeroValue297 rfl ?_))
   intro b4 w10 hS18
   refine j4w (T:=297) (vs:=[(.string x1_.1),(.string x1_.2)]) (cs':=[(.string x1_.1),(.string x1_.2)]) (ms':=(blk b4 297 [(.string x1_.1),(.string x1_.2)]::smap b2 (asl es2)::blk b3 335 [(.map (some b2))]::vec v6 9 1 ((cpt r1_).length) ((cpt r1_).flatMap Qe)::vec v4 9 1 ((srt nodes_p).length) ((srt nodes_p).flatMap Qe)::Ws 9 1 Qe es2)) (i:=0) hS18 rfl rfl rfl Tryz.sizeOf297 rfl (ones rfl) rfl (Nat.le_of_ble_eq_true rfl) rfl rfl ?_
   intro w11 hS19
   refine wpList_nil (Qj (wp_seq (Qn (Qz (v:=v4) rfl (z5p (a':=⟨b4,0,none⟩) rfl Tryz.underlying297 rfl Tryz.sizeOf9 rfl (q2b (v:=(.string x1_.1)) rfl Tryz.isAgg9 (hS19.cell (i:=0) rfl rfl) ?_))))))
   obtain⟨σ4,hS20,hsub4,hr7⟩:=hS19.peek (i:=4) rfl B7 (show Sml (srt nodes_p).length by rw[Z2];exact hsm1)
   obtain⟨Y3,hK2,hc2⟩:=hP
   refine q3c (args:=[v4,(.string x1_.1)]) rfl Tryz.call142 (Calls.mono (J0 (srt nodes_p) x1_.1 v4 hS20.view hr7 hc2) ?_)
   rintro _ w12 ⟨r2_,rfl,hg5,hY2⟩
   refine⟨_,rfl,?_⟩
   have hg5b:=hg5.back hsub4
   have hS21:=hS19.grow hg5b
   replace hP:=hK2 r2_ hY2
   refine w4c (r:=(!r2_)) rfl rfl ?_
   rcases Bool.eq_false_or_eq_true (r2_) with hb1|hb1
   ·
    replace hP:=hP.1 hb1
    refine Qz (v:=(.bool false)) (congrArg Value.bool (congrArg Bool.not hb1)) (o_on rfl rfl (Qz (v:=v4) rfl (o_on rfl rfl (z5p (a':=⟨b4,1,none⟩) rfl Tryz.underlying297 rfl Tryz.sizeOf9 rfl (o_on rfl rfl (q2b (v:=(.string x1_.2)) rfl Tryz.isAgg9 (hS21.cell (i:=0) rfl rfl) (o_on rfl rfl ?_)))))))
    obtain⟨σ5,hS22,hsub5,hr8⟩:=hS21.peek (i:=4) rfl B7 (show Sml (srt nodes_p).length by rw[Z2];exact hsm1)
    obtain⟨Y4,hK3,hc3⟩:=hP
    refine q3c (args:=[v4,(.string x1_.2)]) rfl Tryz.call142 (Calls.mono (J0 (srt nodes_p) x1_.2 v4 hS22.view hr8 hc3) ?_)
    rintro _ w13 ⟨r3_,rfl,hg6,hY3⟩
    refine⟨_,rfl,?_⟩
    have hg6b:=hg6.back hsub5
    have hS23:=hS21.grow hg6b
    replace hP:=hK3 r3_ hY3
    refine o_on rfl rfl (w4c (r:=(!r3_)) rfl rfl (w4a (v:=(.bool (!r3_))) rfl rfl (wpList_nil (Qj ?_))))
    refine v0m rfl (fun ht3=> ?_) (fun ht3=> ?_)
    ·
     replace hP:=hP.2 (by first|(rw[ht3];exact Bool.false_ne_true)|simp[ht3])
     refine Qn (Qo (v:=(.slice none 0 0)) rfl (Qo (v:=(.int .i64 (11:Int))) rfl (wpList_nil (Qj (wp_ret (Gb (z4a (Gb (Gb (z4a (Gb (ret2 rfl (show ev _ _ _=(.slice none 0 0) from rfl) (show ev _ _ _=(.int .i64 (11:Int)) from rfl) ?_))))))))))))
     have hS24:=hS23.addNil 9 1
     exact⟨[],(11:Int),(.slice none 0 0),rfl,(St.back (hS24.keep 1 (ms':=[vec (.slice none 0 0) 9 1 0 []]) rfl) (Sub.refl _)),(by simp[Sml]),hP⟩
    ·
     replace hP:=hP.1 ht3
     refine wp_skip (Qj (dr (fun z=>St ⟨w,σ,[]⟩ z σ3 [blk b4 297 [(.string x1_.1),(.string x1_.2)],blk b3 335 [(.map (some b2))],vec v6 9 1 ((cpt r1_).length) ((cpt r1_).flatMap Qe),vec v4 9 1 ((srt nodes_p).length) ((srt nodes_p).flatMap Qe)]) (by kernel_rfl) rfl ?_))
     have hS25:=hS23.drew
     refine dt 0 1 (v:=(.map (some b2))) (by kernel_rfl) rfl rfl (fun _ _ _ h=>h) (hS25.sublist (.cons_cons _ (.cons _ (.cons_cons _ (.cons_cons _ (.cons_cons _ (List.nil_sublist _))))))) (fun _ hJ _ hK=>q2b (v:=(.map (some b2))) rfl Tryz.isAgg335 (hJ.cell (i:=1) rfl rfl) ⟨rfl,hK⟩) (dt 1 3 (v:=(.pointer (some ⟨b4,0,none⟩))) (by kernel_rfl) rfl rfl (fun _ _ _ h=>h) (hS25.sublist (.cons_cons _ (.cons _ (.cons_cons _ (.cons_cons _ (.cons_cons _ (List.nil_sublist _))))))) (fun _ _ _ hK=>z5p (a':=⟨b4,0,none⟩) rfl Tryz.underlying297 rfl Tryz.sizeOf9 rfl ⟨rfl,hK⟩) (dt 2 7 (v:=(.string x1_.1)) (by kernel_rfl) rfl rfl (fun _ _ _ h=>h) (hS25.sublist (.cons_cons _ (.cons _ (.cons_cons _ (.cons_cons _ (.cons_cons _ (List.nil_sublist _))))))) (fun _ hJ _ hK=>q2b (v:=(.string x1_.1)) rfl Tryz.isAgg9 (hJ.cell (i:=0) rfl rfl) ⟨rfl,hK⟩) (dt 3 15 (v:=(.map (some b2))) (by kernel_rfl) rfl rfl (fun _ _ _ h=>h) (hS25.sublist (.cons_cons _ (.cons _ (.cons_cons _ (.cons_cons _ (.cons_cons _ (List.nil_sublist _))))))) (fun _ hJ _ hK=>q2b (v:=(.map (some b2))) rfl Tryz.isAgg335 (hJ.cell (i:=1) rfl rfl) ⟨rfl,hK⟩) (dt 4 31 (v:=(.pointer (some ⟨b4,0,none⟩))) (by kernel_rfl) rfl rfl (fun _ _ _ h=>h) (hS25.sublist (.cons_cons _ (.cons _ (.cons_cons _ (.cons_cons _ (.cons_cons _ (List.nil_sublist _))))))) (fun _ _ _ hK=>z5p (a':=⟨b4,0,none⟩) rfl Tryz.underlying297 rfl Tryz.sizeOf9 rfl ⟨rfl,hK⟩) (dt 5 63 (v:=(.string x1_.1)) (by kernel_rfl) rfl rfl (fun _ _ _ h=>h) (hS25.sublist (.cons_cons _ (.cons _ (.cons_cons _ (.cons_cons _ (.cons_cons _ (List.nil_sublist _))))))) (fun _ hJ _ hK=>q2b (v:=(.string x1_.1)) rfl Tryz.isAgg9 (hJ.cell (i:=0) rfl rfl) ⟨rfl,hK⟩) (dt 7 191 (v:=(.pointer (some ⟨b4,1,none⟩))) (by kernel_rfl) rfl rfl (fun _ _ _ h=>h) (hS25.sublist (.cons_cons _ (.cons _ (.cons_cons _ (.cons_cons _ (.cons_cons _ (List.nil_sublist _))))))) (fun _ _ _ hK=>z5p (a':=⟨b4,1,none⟩) rfl Tryz.underlying297 rfl Tryz.sizeOf9 rfl ⟨rfl,hK⟩) (dt 8 447 (v:=(.string x1_.2)) (by kernel_rfl) rfl rfl (fun _ _ _ h=>h) (hS25.sublist (.cons_cons _ (.cons _ (.cons_cons _ (.cons_cons _ (.cons_cons _ (List.nil_sublist _))))))) (fun _ hJ _ hK=>q2b (v:=(.string x1_.2)) rfl Tryz.isAgg9 (hJ.cell (i:=0) rfl rfl) ⟨rfl,hK⟩) ?_)))))))
     refine d2 6 9 511 959 (by kernel_rfl) rfl rfl rfl rfl ?_ ?_
     ·
      obtain⟨v7,hv1⟩: ∃v,(asl es2 x1_.1).getD (.slice none 0 0)=v:=⟨_,rfl⟩
      refine j9x (i:=1) (v:=v7) hS25 rfl rfl rfl Tryz.underlying335 Tryz.underlying9 Tryz.zeroValue55 hv1 (wpList_nil ?_)
      refine⟨rfl,(hS25.sublist (.cons_cons _ (.cons _ (.cons_cons _ (.cons_cons _ (.cons_cons _ (List.nil_sublist _))))))),?_⟩
      refine d1 9 1023 (by kernel_rfl) rfl (z41 (cs:=[(.string x1_.2)]) (e:=9) hS25 (fun _=>by kernel_rfl) ?_)
      intro b5 w14 hS26
      refine wpList_nil ?_
      refine⟨rfl,(hS26.sublist (.cons _ (.cons_cons _ (.cons _ (.cons_cons _ (.cons_cons _ (.cons_cons _ (List.nil_sublist _)))))))),?_⟩
      refine d1 10 2047 (by kernel_rfl) rfl ?_
      obtain⟨es3,hS27,hL1,hl3⟩:=St.borrow (ms:=[blk b5 9 [(.string x1_.2)],blk b4 297 [(.string x1_.1),(.string x1_.2)],smap b2 (asl es2),blk b3 335 [(.map (some b2))],vec v6 9 1 ((cpt r1_).length) ((cpt r1_).flatMap Qe),vec v4 9 1 ((srt nodes_p).length) ((srt nodes_p).flatMap Qe)]) hS26 hF2 x1_.1 hv1
      obtain⟨hsm3,hP⟩:=hP
      refine w7u (Ms:=fun v8=>(vec v8 9 1 ((((F_2 x1_.1).getD [])++[x1_.2]).length) ((((F_2 x1_.1).getD [])++[x1_.2]).flatMap Qe)::blk b5 9 [(.string x1_.2)]::blk b4 297 [(.string x1_.1),(.string x1_.2)]::smap b2 (asl es2)::blk b3 335 [(.map (some b2))]::vec v6 9 1 ((cpt r1_).length) ((cpt r1_).flatMap Qe)::vec v4 9 1 ((srt nodes_p).length) ((srt nodes_p).flatMap Qe)::Ws 9 1 Qe es3)) (k':=(((F_2 x1_.1).getD [])++[x1_.2]).length) (xs':=(((F_2 x1_.1).getD [])++[x1_.2]).flatMap Qe) Tryz.underlying55 Tryz.type9 rfl rfl (bytes:=16) rfl rfl (Nat.succ_pos _) hS27 rfl (q:=0) rfl rfl rfl (q3v (hS27.get (i:=1) rfl)) (ones rfl) hsm3 (by omega) (by first|rfl|exact List.length_append.symm|simp) (by simp[Qe]) (fun _=>rfl) ?_
      intro v8 w15 ho5 hS28
      have hS29:=hS28.drop 1 (ms':=(vec v8 9 1 ((((F_2 x1_.1).getD [])++[x1_.2]).length) ((((F_2 x1_.1).getD [])++[x1_.2]).flatMap Qe)::blk b4 297 [(.string x1_.1),(.string x1_.2)]::smap b2 (asl es2)::blk b3 335 [(.map (some b2))]::vec v6 9 1 ((cpt r1_).length) ((cpt r1_).flatMap Qe)::vec v4 9 1 ((srt nodes_p).length) ((srt nodes_p).flatMap Qe)::Ws 9 1 Qe es3)) rfl
      refine wpList_nil ?_
      refine⟨rfl,(hS29.sublist (.cons _ (.cons_cons _ (.cons _ (.cons_cons _ (.cons_cons _ (.cons_cons _ (List.nil_sublist _)))))))),?_⟩
      refine d1 11 4095 (by kernel_rfl) rfl (w7r (v:=v8) (i:=2) (ms':=(vec v8 9 1 ((((F_2 x1_.1).getD [])++[x1_.2]).length) ((((F_2 x1_.1).getD [])++[x1_.2]).flatMap Qe)::blk b4 297 [(.string x1_.1),(.string x1_.2)]::smap b2 (fun k'=>if k'=x1_.1 then some v8 else asl es2 k')::blk b3 335 [(.map (some b2))]::vec v6 9 1 ((cpt r1_).length) ((cpt r1_).flatMap Qe)::vec v4 9 1 ((srt nodes_p).length) ((srt nodes_p).flatMap Qe)::Ws 9 1 Qe es3)) hS29 rfl rfl rfl rfl Tryz.underlying335 Tryz.underlying9 rfl ?_)
      intro w16 hS30
      have hS32:=St.giveback (ms:=[blk b4 297 [(.string x1_.1),(.string x1_.2)],smap b2 (fun k'=>if k'=x1_.1 then some v8 else asl es2 k'),blk b3 335 [(.map (some b2))],vec v6 9 1 ((cpt r1_).length) ((cpt r1_).flatMap Qe),vec v4 9 1 ((srt nodes_p).length) ((srt nodes_p).flatMap Qe)]) (ms':=[blk b4 297 [(.string x1_.1),(.string x1_.2)],smap b2 (asl ((x1_.1,v8,((F_2 x1_.1).getD [])++[x1_.2])::es3)),blk b3 335 [(.map (some b2))],vec v6 9 1 ((cpt r1_).length) ((cpt r1_).flatMap Qe),vec v4 9 1 ((srt nodes_p).length) ((srt nodes_p).flatMap Qe)]) (i:=1) hS30 hL1 rfl rfl
      have hF3:=ELF.put (v:=v8) hF2 hL1 hsm3
      refine wpList_nil ?_
      refine⟨rfl,(hS32.sublist (.cons_cons _ (.cons _ (.cons_cons _ (.cons_cons _ (.cons_cons _ (List.nil_sublist _))))))),z42 (J':=fun z=>St ⟨w,σ,[]⟩ z σ3 (blk b4 297 [(.string x1_.1),(.string x1_.2)]::smap b2 (asl ((x1_.1,v8,((F_2 x1_.1).getD [])++[x1_.2])::es3))::blk b3 335 [(.map (some b2))]::vec v6 9 1 ((cpt r1_).length) ((cpt r1_).flatMap Qe)::vec v4 9 1 ((srt nodes_p).length) ((srt nodes_p).flatMap Qe)::Ws 9 1 Qe ((x1_.1,v8,((F_2 x1_.1).getD [])++[x1_.2])::es3))) (fun w h=>h.sublist (.cons_cons _ (.cons _ (.cons_cons _ (.cons_cons _ (.cons_cons _ (List.nil_sublist _))))))) _ _ _ _ ?_⟩
      refine dz (by kernel_rfl) (j78 (Qj (z19 (j77 (r:=((k_3+1:Nat):Int)) rfl rfl (nw (by omega) (by omega) (by have:=hlen3;omega)) (Qz (v:=(.int .i64 ((k_3+1:Nat):Int))) rfl (wpList_nil (Qj ?_)))))))
      exact⟨k_3+1,(put F_2 x1_.1 (((F_2 x1_.1).getD [])++[x1_.2])),_,rfl,hP,((x1_.1,v8,((F_2 x1_.1).getD [])++[x1_.2])::es3),σ3,_,(Zh rfl (Zh rfl (Zh rfl (Zh rfl (Zh rfl rfl))))),(hS32.sublist (ms':=(smap b2 (asl ((x1_.1,v8,((F_2 x1_.1).getD [])++[x1_.2])::es3))::blk b3 335 [(.map (some b2))]::vec v6 9 1 ((cpt r1_).length) ((cpt r1_).flatMap Qe)::vec v4 9 1 ((srt nodes_p).length) ((srt nodes_p).flatMap Qe)::Ws 9 1 Qe ((x1_.1,v8,((F_2 x1_.1).getD [])++[x1_.2])::es3))) (.cons _ (List.Sublist.refl _))),hsub3,hF3⟩
     ·
      refine z41 (cs:=[(.string x1_.2)]) (e:=9) hS25 (fun _=>by kernel_rfl) ?_
      intro b5 w14 hS26
      refine wpList_nil ?_
      refine⟨rfl,(hS26.sublist (.cons _ (.cons_cons _ (.cons _ (.cons_cons _ (.cons_cons _ (.cons_cons _ (List.nil_sublist _)))))))),?_⟩
      refine d1 6 1023 (by kernel_rfl) rfl ?_
      obtain⟨v7,hv1⟩: ∃v,(asl es2 x1_.1).getD (.slice none 0 0)=v:=⟨_,rfl⟩
      refine j9x (i:=2) (v:=v7) hS26 rfl rfl rfl Tryz.underlying335 Tryz.underlying9 Tryz.zeroValue55 hv1 (wpList_nil ?_)
      refine⟨rfl,(hS26.sublist (.cons _ (.cons_cons _ (.cons _ (.cons_cons _ (.cons_cons _ (.cons_cons _ (List.nil_sublist _)))))))),?_⟩
      refine d1 10 2047 (by kernel_rfl) rfl ?_
      obtain⟨es3,hS27,hL1,hl3⟩:=St.borrow (ms:=[blk b5 9 [(.string x1_.2)],blk b4 297 [(.string x1_.1),(.string x1_.2)],smap b2 (asl es2),blk b3 335 [(.map (some b2))],vec v6 9 1 ((cpt r1_).length) ((cpt r1_).flatMap Qe),vec v4 9 1 ((srt nodes_p).length) ((srt nodes_p).flatMap Qe)]) hS26 hF2 x1_.1 hv1
      obtain⟨hsm3,hP⟩:=hP
      refine w7u (Ms:=fun v8=>(vec v8 9 1 ((((F_2 x1_.1).getD [])++[x1_.2]).length) ((((F_2 x1_.1).getD [])++[x1_.2]).flatMap Qe)::blk b5 9 [(.string x1_.2)]::blk b4 297 [(.string x1_.1),(.string x1_.2)]::smap b2 (asl es2)::blk b3 335 [(.map (some b2))]::vec v6 9 1 ((cpt r1_).length) ((cpt r1_).flatMap Qe)::vec v4 9 1 ((srt nodes_p).length) ((srt nodes_p).flatMap Qe)::Ws 9 1 Qe es3)) (k':=(((F_2 x1_.1).getD [])++[x1_.2]).length) (xs':=(((F_2 x1_.1).getD [])++[x1_.2]).flatMap Qe) Tryz.underlying55 Tryz.type9 rfl rfl (bytes:=16) rfl rfl (Nat.succ_pos _) hS27 rfl (q:=0) rfl rfl rfl (q3v (hS27.get (i:=1) rfl)) (ones rfl) hsm3 (by omega) (by first|rfl|exact List.length_append.symm|simp) (by simp[Qe]) (fun _=>rfl) ?_
      intro v8 w15 ho5 hS28
      have hS29:=hS28.drop 1 (ms':=(vec v8 9 1 ((((F_2 x1_.1).getD [])++[x1_.2]).length) ((((F_2 x1_.1).getD [])++[x1_.2]).flatMap Qe)::blk b4 297 [(.string x1_.1),(.string x1_.2)]::smap b2 (asl es2)::blk b3 335 [(.map (some b2))]::vec v6 9 1 ((cpt r1_).length) ((cpt r1_).flatMap Qe)::vec v4 9 1 ((srt nodes_p).length) ((srt nodes_p).flatMap Qe)::Ws 9 1 Qe es3)) rfl
      refine wpList_nil ?_
      refine⟨rfl,(hS29.sublist (.cons _ (.cons_cons _ (.cons _ (.cons_cons _ (.cons_cons _ (.cons_cons _ (List.nil_sublist _)))))))),?_⟩
      refine d1 11 4095 (by kernel_rfl) rfl (w7r (v:=v8) (i:=2) (ms':=(vec v8 9 1 ((((F_2 x1_.1).getD [])++[x1_.2]).length) ((((F_2 x1_.1).getD [])++[x1_.2]).flatMap Qe)::blk b4 297 [(.string x1_.1),(.string x1_.2)]::smap b2 (fun k'=>if k'=x1_.1 then some v8 else asl es2 k')::blk b3 335 [(.map (some b2))]::vec v6 9 1 ((cpt r1_).length) ((cpt r1_).flatMap Qe)::vec v4 9 1 ((srt nodes_p).length) ((srt nodes_p).flatMap Qe)::Ws 9 1 Qe es3)) hS29 rfl rfl rfl rfl Tryz.underlying335 Tryz.underlying9 rfl ?_)
      intro w16 hS30
      have hS32:=St.giveback (ms:=[blk b4 297 [(.string x1_.1),(.string x1_.2)],smap b2 (fun k'=>if k'=x1_.1 then some v8 else asl es2 k'),blk b3 335 [(.map (some b2))],vec v6 9 1 ((cpt r1_).length) ((cpt r1_).flatMap Qe),vec v4 9 1 ((srt nodes_p).length) ((srt nodes_p).flatMap Qe)]) (ms':=[blk b4 297 [(.string x1_.1),(.string x1_.2)],smap b2 (asl ((x1_.1,v8,((F_2 x1_.1).getD [])++[x1_.2])::es3)),blk b3 335 [(.map (some b2))],vec v6 9 1 ((cpt r1_).length) ((cpt r1_).flatMap Qe),vec v4 9 1 ((srt nodes_p).length) ((srt nodes_p).flatMap Qe)]) (i:=1) hS30 hL1 rfl rfl
      have hF3:=ELF.put (v:=v8) hF2 hL1 hsm3
      refine wpList_nil ?_
      refine⟨rfl,(hS32.sublist (.cons_cons _ (.cons _ (.cons_cons _ (.cons_cons _ (.cons_cons _ (List.nil_sublist _))))))),z42 (J':=fun z=>St ⟨w,σ,[]⟩ z σ3 (blk b4 297 [(.string x1_.1),(.string x1_.2)]::smap b2 (asl ((x1_.1,v8,((F_2 x1_.1).getD [])++[x1_.2])::es3))::blk b3 335 [(.map (some b2))]::vec v6 9 1 ((cpt r1_).length) ((cpt r1_).flatMap Qe)::vec v4 9 1 ((srt nodes_p).length) ((srt nodes_p).flatMap Qe)::Ws 9 1 Qe ((x1_.1,v8,((F_2 x1_.1).getD [])++[x1_.2])::es3))) (fun w h=>h.sublist (.cons_cons _ (.cons _ (.cons_cons _ (.cons_cons _ (.cons_cons _ (List.nil_sublist _))))))) _ _ _ _ ?_⟩
      refine dz (by kernel_rfl) (j78 (Qj (z19 (j77 (r:=((k_3+1:Nat):Int)) rfl rfl (nw (by omega) (by omega) (by have:=hlen3;omega)) (Qz (v:=(.int .i64 ((k_3+1:Nat):Int))) rfl (wpList_nil (Qj ?_)))))))
      exact⟨k_3+1,(put F_2 x1_.1 (((F_2 x1_.1).getD [])++[x1_.2])),_,rfl,hP,((x1_.1,v8,((F_2 x1_.1).getD [])++[x1_.2])::es3),σ3,_,(Zh rfl (Zh rfl (Zh rfl (Zh rfl (Zh rfl rfl))))),(hS32.sublist (ms':=(smap b2 (asl ((x1_.1,v8,((F_2 x1_.1).getD [])++[x1_.2])::es3))::blk b3 335 [(.map (some b2))]::vec v6 9 1 ((cpt r1_).length) ((cpt r1_).flatMap Qe)::vec v4 9 1 ((srt nodes_p).length) ((srt nodes_p).flatMap Qe)::Ws 9 1 Qe ((x1_.1,v8,((F_2 x1_.1).getD [])++[x1_.2])::es3))) (.cons _ (List.Sublist.refl _))),hsub3,hF3⟩
   ·
    replace hP:=hP.2 (by first|(rw[hb1];exact Bool.false_ne_true)|simp[hb1])
    refine Qz (v:=(.bool true)) (congrArg Value.bool (congrArg Bool.not hb1)) (j9n rfl rfl (j9n rfl rfl (j9n rfl rfl (j9n rfl rfl (j9n rfl rfl (w39 (v:=(.bool true)) rfl rfl (wpList_nil (Qj (if_t rfl (Qn (Qo (v:=(.slice none 0 0)) rfl (Qo (v:=(.int .i64 (11:Int))) rfl (wpList_nil (Qj (wp_ret (Gb (z4a (Gb (Gb (z4a (Gb (ret2 rfl (show ev _ _ _=(.slice none 0 0) from rfl) (show ev _ _ _=(.int .i64 (11:Int)) from rfl) ?_))))))))))))))))))))))
    have hS33:=hS21.addNil 9 1
    exact⟨[],(11:Int),(.slice none 0 0),rfl,(St.back (hS33.keep 1 (ms':=[vec (.slice none 0 0) 9 1 0 []]) rfl) (Sub.refl _)),(by simp[Sml]),hP⟩
  ·
   replace hP:=hP.2 ht2
   refine wp_exit (q82 (q82 (z5r (Qj (Qn (Qo (v:=(.slice none 0 0)) rfl (wpList_nil (Qj (Qn (w7s (fun y:Bool=>(Value.bool (y))) hS17 ?_))))))))))
   intro b6 w17 hS34
   refine j4x (cs:=[(.map none)]) hS34 Tryz.zeroValue177 rfl ?_
   intro b7 w18 hS35
   refine j4w (T:=177) (vs:=[(.map (some b6))]) (cs':=[(.map (some b6))]) (ms':=(blk b7 177 [(.map (some b6))]::emap b6 (fun y:Bool=>(Value.bool (y))) (fun _=>none)::smap b2 (asl es2)::blk b3 335 [(.map (some b2))]::vec v6 9 1 ((cpt r1_).length) ((cpt r1_).flatMap Qe)::vec v4 9 1 ((srt nodes_p).length) ((srt nodes_p).flatMap Qe)::Ws 9 1 Qe es2)) (i:=0) hS35 rfl rfl rfl Tryz.sizeOf177 rfl (ones rfl) rfl (Nat.le_of_ble_eq_true rfl) rfl rfl ?_
   intro w19 hS36
   refine wpList_nil (Qj (wp_seq (wp_block ?_)))
   obtain⟨σ6,hS37,hsub6,hr9⟩:=St.freezeL (ms:=[blk b7 177 [(.map (some b6))],emap b6 (fun y:Bool=>(Value.bool (y))) (fun _=>none),smap b2 (asl es2),blk b3 335 [(.map (some b2))],vec v6 9 1 ((cpt r1_).length) ((cpt r1_).flatMap Qe),vec v4 9 1 ((srt nodes_p).length) ((srt nodes_p).flatMap Qe)]) (ms':=[blk b7 177 [(.map (some b6))],emap b6 (fun y:Bool=>(Value.bool (y))) (fun _=>none),blk b3 335 [(.map (some b2))],vec v6 9 1 ((cpt r1_).length) ((cpt r1_).flatMap Qe),vec v4 9 1 ((srt nodes_p).length) ((srt nodes_p).flatMap Qe)]) (i:=2) hS36 hF2 B7 rfl rfl
   have hS38:=hS37.addNil 9 1
   have hS39:=hS38.front 4 rfl (ms':=[vec v6 9 1 ((cpt r1_).length) ((cpt r1_).flatMap Qe),vec (.slice none 0 0) 9 1 0 [],blk b7 177 [(.map (some b6))],emap b6 (fun y:Bool=>(Value.bool (y))) (fun _=>none),blk b3 335 [(.map (some b2))],vec v4 9 1 ((srt nodes_p).length) ((srt nodes_p).flatMap Qe)]) rfl
   have hS40:=hS39.front 4 rfl (ms':=[blk b3 335 [(.map (some b2))],vec v6 9 1 ((cpt r1_).length) ((cpt r1_).flatMap Qe),vec (.slice none 0 0) 9 1 0 [],blk b7 177 [(.map (some b6))],emap b6 (fun y:Bool=>(Value.bool (y))) (fun _=>none),vec v4 9 1 ((srt nodes_p).length) ((srt nodes_p).flatMap Qe)]) rfl
   have hS41:=hS40.front 3 rfl (ms':=[blk b7 177 [(.map (some b6))],blk b3 335 [(.map (some b2))],vec v6 9 1 ((cpt r1_).length) ((cpt r1_).flatMap Qe),vec (.slice none 0 0) 9 1 0 [],emap b6 (fun y:Bool=>(Value.bool (y))) (fun _=>none),vec v4 9 1 ((srt nodes_p).length) ((srt nodes_p).flatMap Qe)]) rfl
   have hS42:=hS41.front 4 rfl (ms':=[emap b6 (fun y:Bool=>(Value.bool (y))) (fun _=>none),blk b7 177 [(.map (some b6))],blk b3 335 [(.map (some b2))],vec v6 9 1 ((cpt r1_).length) ((cpt r1_).flatMap Qe),vec (.slice none 0 0) 9 1 0 [],vec v4 9 1 ((srt nodes_p).length) ((srt nodes_p).flatMap Qe)]) rfl
   have hS43:=hS42.front 4 rfl (ms':=[vec (.slice none 0 0) 9 1 0 [],emap b6 (fun y:Bool=>(Value.bool (y))) (fun _=>none),blk b7 177 [(.map (some b6))],blk b3 335 [(.map (some b2))],vec v6 9 1 ((cpt r1_).length) ((cpt r1_).flatMap Qe),vec v4 9 1 ((srt nodes_p).length) ((srt nodes_p).flatMap Qe)]) rfl
   have hS44:=hS43.front 5 rfl (ms':=[vec v4 9 1 ((srt nodes_p).length) ((srt nodes_p).flatMap Qe),vec (.slice none 0 0) 9 1 0 [],emap b6 (fun y:Bool=>(Value.bool (y))) (fun _=>none),blk b7 177 [(.map (some b6))],blk b3 335 [(.map (some b2))],vec v6 9 1 ((cpt r1_).length) ((cpt r1_).flatMap Qe)]) rfl
   refine w4j (fun left_3 out_3 F_4 f z=> ∃(v13:Value) (v14:Value) (σ7:Hv) (g:Fr),f=(upd (upd (upd (upd g 6 v13) 7 (.pointer (some ⟨b3,0,none⟩))) 10 v14) 11 (.pointer (some ⟨b7,0,none⟩)))/\St ⟨w,σ,[]⟩ z σ7 [vec v13 9 1 left_3.length ((left_3).flatMap Qe),vec v14 9 1 out_3.length ((out_3).flatMap Qe),emap b6 (fun y:Bool=>(Value.bool (y))) F_4,blk b7 177 [(.map (some b6))],blk b3 335 [(.map (some b2))],vec v6 9 1 ((cpt r1_).length) ((cpt r1_).flatMap Qe)]/\Sub σ6 σ7/\v13.oneCell'=true/\Sml left_3.length/\v14.oneCell'=true/\Sml out_3.length) hP ⟨v4,(.slice none 0 0),σ6,_,(Zh rfl (Zh rfl (Zh rfl (Zh rfl rfl)))),hS44,(Sub.refl _),(Gc ho1.1),(show Sml (srt nodes_p).length by rw[Z2];exact hsm1),rfl,(by simp[Sml])⟩ ?_
   clear hP
   rintro left_3 out_3 F_4 Y5 hP f w20 ⟨v13,v14,σ7,g,rfl,hS45,hsub7,ho10,hl8,ho11,hl9⟩
   refine wp_seq (Qn (Qz (v:=v13) rfl (z0i hS45 rfl (i:=0) rfl Tryz.underlying55 ?_)))
   have hlen4:left_3.length<=9223372036854775807:=by have:=hl8;unfold Sml at this;omega
   replace hP:=hP hlen4
   refine v2p (r:=(decide ((0:Int)<((left_3.length:Nat):Int)))) rfl rfl rfl (wpList_nil (Qj ?_))
   refine if_d ((0:Int)<((left_3.length:Nat):Int)) rfl (fun ht4=> ?_) (fun ht4=> ?_)
   ·
    replace hP:=hP.1 ht4
    refine wp_skip (Qj (wp_block (Qn (Qz (v:=v13) rfl (z2a (la:=[]) (lb:=[(.pointer (some ⟨b3,0,none⟩)),(.pointer (some ⟨b7,0,none⟩))]) rfl rfl ?_)))))
    obtain⟨Y6,hK4,hP⟩:=hP
    refine q3c (args:=[v13,(.func (.func 229) #[] #[(.pointer (some ⟨b3,0,none⟩)),(.pointer (some ⟨b7,0,none⟩))])]) rfl Tryz.call228 (Calls.mono (R:=fun e z=> ∃(r_1:Int) (σ8:Hv),e= .returned (.int .i64 r_1)/\Y6 r_1/\St ⟨w,σ,[]⟩ z σ8 [vec v13 9 1 left_3.length ((left_3).flatMap Qe),vec v14 9 1 out_3.length ((out_3).flatMap Qe),emap b6 (fun y:Bool=>(Value.bool (y))) F_4,blk b7 177 [(.map (some b6))],blk b3 335 [(.map (some b2))],vec v6 9 1 ((cpt r1_).length) ((cpt r1_).flatMap Qe)]/\Sub σ7 σ8) ?_ ?_)
    ·
     refine enter Tryz.func228 rfl rfl rfl ?_
     refine Qn (Qo (v:=(.int .i64 (0:Int))) rfl (wpList_nil (Qj (wp_seq (Qn (Qz (v:=v13) rfl (z0i hS45 rfl (i:=0) rfl Tryz.underlying55 (Qz (v:=(.int .i64 (0:Int))) rfl (wpList_nil (Qj (wp_block ?_)))))))))))
     refine j0g (fun k_5 f z=> ∃(σ9:Hv) (g:Fr),f=(upd (upd (upd (upd g 0 v13) 1 (.func (.func 229) #[] #[(.pointer (some ⟨b3,0,none⟩)),(.pointer (some ⟨b7,0,none⟩))])) 7 (.int .i64 ((left_3.length:Nat):Int))) 8 (.int .i64 ((k_5:Nat):Int)))/\St ⟨w,σ,[]⟩ z σ9 [vec v13 9 1 left_3.length ((left_3).flatMap Qe),vec v14 9 1 out_3.length ((out_3).flatMap Qe),emap b6 (fun y:Bool=>(Value.bool (y))) F_4,blk b7 177 [(.map (some b6))],blk b3 335 [(.map (some b2))],vec v6 9 1 ((cpt r1_).length) ((cpt r1_).flatMap Qe)]/\Sub σ7 σ9) hP ⟨σ7,_,(Zh rfl (Zh rfl (Zh rfl (Zh rfl rfl)))),hS45,(Sub.refl _)⟩ ?_
     clear hP
     rintro k_5 Y7 hP f w21 ⟨σ9,g,rfl,hS46,hsub9⟩
     refine Qn (j9o (r:=(decide (((k_5:Nat):Int)<((left_3.length:Nat):Int)))) rfl rfl rfl (wpList_nil (Qj (wp_seq ?_))))
     refine if_d (((k_5:Nat):Int)<((left_3.length:Nat):Int)) rfl (fun ht5=> ?_) (fun ht5=> ?_)
     ·
      replace hP:=hP.1 ht5
      refine wp_skip (Qj (wp_seq (wp_block (Qn (Qz (v:=(.int .i64 ((k_5:Nat):Int))) rfl (Qo (v:=(.int .i64 ((k_5:Nat):Int))) rfl (wpList_nil (Qj (Qn (Qz (v:=(.func (.func 229) #[] #[(.pointer (some ⟨b3,0,none⟩)),(.pointer (some ⟨b7,0,none⟩))])) rfl (Qz (v:=v13) rfl (Qz (v:=(.int .i64 ((k_5:Nat):Int))) rfl ?_))))))))))))
      obtain⟨x2_,hx2⟩:=getq (l:=left_3) (k:=k_5) (by have:=ht5;omega)
      replace hP:=hP x2_ hx2
      obtain⟨g1,cp1,hv2⟩:=j0h (hS46.get (i:=0) rfl) (Qg hx2)
      refine Ux (k:=k_5) (a':=⟨g1,k_5*1,none⟩) hv2 rfl rfl (Qg hx2) Tryz.underlying55 Tryz.sizeOf9 (by simp[J7]) (q2b (v:=(.string x2_)) rfl Tryz.isAgg9 (z5y B7 (j:=0) hv2 (hS46.get (i:=0) rfl) hx2 rfl) (j9r (args:=[(.string x2_),(.pointer (some ⟨b3,0,none⟩)),(.pointer (some ⟨b7,0,none⟩))]) rfl rfl Tryz.call229 ?_))
      refine enter Tryz.func229 rfl rfl rfl ?_
      refine Qn (Qo (v:=(.bool false)) rfl (wpList_nil (Qj (Qn (q2b (v:=(.map (some b2))) rfl Tryz.isAgg335 (hS46.cell (i:=4) rfl rfl) (Qz (v:=(.string x2_)) rfl ?_))))))
      obtain⟨v15,hl10,hz1⟩:=RMp.at (z:= .slice none 0 0) (z0:=[]) RSl.nil hr9 x2_
      obtain⟨a3,cap3,rfl⟩:=hz1.shape
      refine w7v (v:=(.slice a3 ((F_2 x2_).getD []).length cap3)) hl10 (View.of (Sub.trans hsub7 hsub9) hS46.view) rfl rfl Tryz.underlying335 Tryz.underlying9 Tryz.zeroValue55 (z2a (la:=[]) (lb:=[(.pointer (some ⟨b7,0,none⟩))]) rfl rfl (q3c (args:=[(.slice a3 ((F_2 x2_).getD []).length cap3),(.func (.func 231) #[] #[(.pointer (some ⟨b7,0,none⟩))])]) rfl Tryz.call230 ?_))
      refine enter Tryz.func230 rfl rfl rfl ?_
      refine Qn (Qo (v:=(.bool false)) rfl (wpList_nil (Qj (Qn (Qz (v:=(.slice a3 ((F_2 x2_).getD []).length cap3)) rfl (Qz (v:=(.func (.func 231) #[] #[(.pointer (some ⟨b7,0,none⟩))])) rfl ?_))))))
      obtain⟨Y8,hK5,hP⟩:=hP
      refine q3c (args:=[(.slice a3 ((F_2 x2_).getD []).length cap3),(.func (.func 231) #[] #[(.pointer (some ⟨b7,0,none⟩))])]) rfl Tryz.call228 (Calls.mono (R:=fun e z=> ∃(r_2:Int) (σ10:Hv),e= .returned (.int .i64 r_2)/\Y8 r_2/\St ⟨w,σ,[]⟩ z σ10 [vec v13 9 1 left_3.length ((left_3).flatMap Qe),vec v14 9 1 out_3.length ((out_3).flatMap Qe),emap b6 (fun y:Bool=>(Value.bool (y))) F_4,blk b7 177 [(.map (some b6))],blk b3 335 [(.map (some b2))],vec v6 9 1 ((cpt r1_).length) ((cpt r1_).flatMap Qe)]/\Sub σ9 σ10) ?_ ?_)
      ·
       refine enter Tryz.func228 rfl rfl rfl ?_
       refine Qn (Qo (v:=(.int .i64 (0:Int))) rfl (wpList_nil (Qj (wp_seq (Qn (Qz (v:=(.slice a3 ((F_2 x2_).getD []).length cap3)) rfl (q4z rfl Tryz.underlying55 ?_)))))))
       have hlen6:=RSl.len63 hz1
       replace hP:=hP hlen6
       refine Qz (v:=(.int .i64 (0:Int))) rfl (wpList_nil (Qj (wp_block ?_)))
       refine j0g (fun k_7 f z=> ∃(σ11:Hv) (g:Fr),f=(upd (upd (upd (upd g 0 (.slice a3 ((F_2 x2_).getD []).length cap3)) 1 (.func (.func 231) #[] #[(.pointer (some ⟨b7,0,none⟩))])) 7 (.int .i64 ((((F_2 x2_).getD []).length:Nat):Int))) 8 (.int .i64 ((k_7:Nat):Int)))/\St ⟨w,σ,[]⟩ z σ11 [vec v13 9 1 left_3.length ((left_3).flatMap Qe),vec v14 9 1 out_3.length ((out_3).flatMap Qe),emap b6 (fun y:Bool=>(Value.bool (y))) F_4,blk b7 177 [(.map (some b6))],blk b3 335 [(.map (some b2))],vec v6 9 1 ((cpt r1_).length) ((cpt r1_).flatMap Qe)]/\Sub σ9 σ11) hP ⟨σ9,_,(Zh rfl (Zh rfl (Zh rfl (Zh rfl rfl)))),hS46,(Sub.refl _)⟩ ?_
       clear hP
       rintro k_7 Y9 hP f w22 ⟨σ11,g,rfl,hS47,hsub11⟩
       refine Qn (j9o (r:=(decide (((k_7:Nat):Int)<((((F_2 x2_).getD []).length:Nat):Int)))) rfl rfl rfl (wpList_nil (Qj (wp_seq ?_))))
       refine if_d (((k_7:Nat):Int)<((((F_2 x2_).getD []).length:Nat):Int)) rfl (fun ht6=> ?_) (fun ht6=> ?_)
       ·
        replace hP:=hP.1 ht6
        refine wp_skip (Qj (wp_seq (wp_block (Qn (Qz (v:=(.int .i64 ((k_7:Nat):Int))) rfl (Qo (v:=(.int .i64 ((k_7:Nat):Int))) rfl (wpList_nil (Qj (Qn (Qz (v:=(.func (.func 231) #[] #[(.pointer (some ⟨b7,0,none⟩))])) rfl (Qz (v:=(.slice a3 ((F_2 x2_).getD []).length cap3)) rfl (Qz (v:=(.int .i64 ((k_7:Nat):Int))) rfl ?_))))))))))))
        obtain⟨x3_,hx3⟩:=getq (l:=((F_2 x2_).getD [])) (k:=k_7) (by have:=ht6;omega)
        replace hP:=hP x3_ hx3
        obtain⟨ad2,cs2,ha2,hl11,hr10,hR2,hlt2⟩:=RSl.at hz1 hx3
        cases hR2
        refine Ux (k:=k_7) (a':=(ad2.add (k_7*1))) (congrArg (fun z=>Value.slice z _ _) ha2) rfl rfl hlt2 Tryz.underlying55 Tryz.sizeOf9 rfl (q2b (v:=(.string x3_)) rfl Tryz.isAgg9 (hr10.cell (View.of (Sub.trans (Sub.trans hsub7 hsub9) hsub11) hS47.view) 0 rfl rfl) (j9r (args:=[(.string x3_),(.pointer (some ⟨b7,0,none⟩))]) rfl rfl Tryz.call231 ?_))
        refine enter Tryz.func231 rfl rfl rfl ?_
        refine Qn (Qo (v:=(.bool false)) rfl (wpList_nil (Qj (Qn (q2b (v:=(.map (some b6))) rfl Tryz.isAgg177 (hS47.cell (i:=3) rfl rfl) (Qz (v:=(.string x3_)) rfl (w7t (v:=(.bool (((F_4 x3_).getD false)))) (i:=2) hS47 rfl rfl rfl Tryz.underlying177 Tryz.underlying9 Tryz.zeroValue4 (w4k (fun y:Bool=>(Value.bool (y))) _ rfl) (w4c (r:=(!((F_4 x3_).getD false))) rfl rfl (Qo (v:=(.bool (!((F_4 x3_).getD false)))) rfl (wpList_nil (Qj (wp_ret (ret1 rfl (show ev _ _ _=(.bool (!((F_4 x3_).getD false))) from rfl) ?_)))))))))))))
        refine⟨_,rfl,?_⟩
        refine wpList_nil (Qj ?_)
        refine v0m rfl (fun ht7=> ?_) (fun ht7=> ?_)
        ·
         replace hP:=hP.2 (by first|(rw[ht7];exact Bool.false_ne_true)|simp[ht7])
         refine Qn (Qz (v:=(.int .i64 ((k_7:Nat):Int))) rfl (Qo (v:=(.int .i64 ((k_7:Nat):Int))) rfl (wpList_nil (Qj (wp_ret (z4a (Gb (Gb (z4a (Gb (ret1 rfl (show ev _ _ _=(.int .i64 ((k_7:Nat):Int)) from rfl) ?_)))))))))))
         exact⟨((k_7:Nat):Int),σ11,rfl,hP,hS47,hsub11⟩
        ·
         replace hP:=hP.1 ht7
         refine wp_skip (j78 (Qj (z19 (j77 (r:=((k_7+1:Nat):Int)) rfl rfl (nw (by omega) (by omega) (by have:=hlen6;omega)) (Qz (v:=(.int .i64 ((k_7+1:Nat):Int))) rfl (wpList_nil (Qj ?_)))))))
         exact⟨k_7+1,_,rfl,hP,σ11,_,(Zh rfl (Zh rfl (Zh rfl (Zh rfl rfl)))),hS47,hsub11⟩
       ·
        replace hP:=hP.2 ht6
        refine wp_exit (q82 (q82 (z5r (Qj (Qn (Qo (v:=(.int .i64 (-1:Int))) rfl (wpList_nil (Qj (wp_ret (ret1 rfl (show ev _ _ _=(.int .i64 (-1:Int)) from rfl) ?_))))))))))
        exact⟨(-1:Int),σ11,rfl,hP,hS47,hsub11⟩
      ·
       rintro _ w23 ⟨r_2,σ10,rfl,hY4,hS48,hsub10⟩
       refine⟨_,rfl,?_⟩
       replace hP:=hK5 r_2 hY4
       refine v0j (r:=(decide ((0:Int)<=r_2))) rfl rfl rfl (Qo (v:=(.bool (decide ((0:Int)<=r_2)))) rfl (wpList_nil (Qj (wp_ret (ret1 rfl (show ev _ _ _=(.bool (decide ((0:Int)<=r_2))) from rfl) ?_)))))
       refine⟨_,rfl,?_⟩
       refine w4c (r:=(!decide ((0:Int)<=r_2))) rfl rfl (Qo (v:=(.bool (!decide ((0:Int)<=r_2)))) rfl (wpList_nil (Qj (wp_ret (ret1 rfl (show ev _ _ _=(.bool (!decide ((0:Int)<=r_2))) from rfl) ?_)))))
       refine⟨_,rfl,?_⟩
       refine wpList_nil (Qj ?_)
       refine v0l ((0:Int)<=r_2) rfl (fun ht8=> ?_) (fun ht8=> ?_)
       ·
        replace hP:=hP.2 ht8
        refine Qn (Qz (v:=(.int .i64 ((k_5:Nat):Int))) rfl (Qo (v:=(.int .i64 ((k_5:Nat):Int))) rfl (wpList_nil (Qj (wp_ret (z4a (Gb (Gb (z4a (Gb (ret1 rfl (show ev _ _ _=(.int .i64 ((k_5:Nat):Int)) from rfl) ?_)))))))))))
        exact⟨((k_5:Nat):Int),σ10,rfl,hP,hS48,(Sub.trans hsub9 hsub10)⟩
       ·
        replace hP:=hP.1 ht8
        refine wp_skip (j78 (Qj (z19 (j77 (r:=((k_5+1:Nat):Int)) rfl rfl (nw (by omega) (by omega) (by have:=hlen4;omega)) (Qz (v:=(.int .i64 ((k_5+1:Nat):Int))) rfl (wpList_nil (Qj ?_)))))))
        exact⟨k_5+1,_,rfl,hP,σ10,_,(Zh rfl (Zh rfl (Zh rfl (Zh rfl rfl)))),hS48,(Sub.trans hsub9 hsub10)⟩
     ·
      replace hP:=hP.2 ht5
      refine wp_exit (q82 (q82 (z5r (Qj (Qn (Qo (v:=(.int .i64 (-1:Int))) rfl (wpList_nil (Qj (wp_ret (ret1 rfl (show ev _ _ _=(.int .i64 (-1:Int)) from rfl) ?_))))))))))
      exact⟨(-1:Int),σ9,rfl,hP,hS46,hsub9⟩
    ·
     rintro _ w24 ⟨r_1,σ8,rfl,hY5,hS49,hsub8⟩
     refine⟨_,rfl,?_⟩
     replace hP:=hK4 r_1 hY5
     refine Qo (v:=(.int .i64 r_1)) rfl (wpList_nil (Qj (wp_seq (Qn (Qz (v:=(.int .i64 r_1)) rfl (j9o (r:=(decide (r_1<(0:Int)))) rfl rfl rfl (wpList_nil (Qj ?_))))))))
     refine if_d (r_1<(0:Int)) rfl (fun ht9=> ?_) (fun ht9=> ?_)
     ·
      replace hP:=hP.1 ht9
      refine Qn (Qo (v:=(.slice none 0 0)) rfl (Qo (v:=(.int .i64 (12:Int))) rfl (wpList_nil (Qj (wp_ret (Gb (z4a (Gb (z4a (Gb (ret2 rfl (show ev _ _ _=(.slice none 0 0) from rfl) (show ev _ _ _=(.int .i64 (12:Int)) from rfl) ?_)))))))))))
      have hS50:=hS49.addNil 9 1
      exact⟨[],(12:Int),(.slice none 0 0),rfl,(St.back (hS50.keep 1 (ms':=[vec (.slice none 0 0) 9 1 0 []]) rfl) (Sub.refl _)),(by simp[Sml]),hP⟩
     ·
      replace hP:=hP.2 ht9
      refine wp_skip (Qj (Qn (Qz (v:=v14) rfl (Qz (v:=v13) rfl (Qz (v:=(.int .i64 r_1)) rfl ?_)))))
      obtain⟨j1_,hj1,hP⟩:=hP
      obtain⟨x4_,hx4,hP⟩:=hP
      obtain⟨g2,cp2,hv3⟩:=j0h (hS49.get (i:=0) rfl) (Qg hx4)
      refine Ux (k:=j1_) (a':=⟨g2,j1_*1,none⟩) hv3 rfl hj1 (Qg hx4) Tryz.underlying55 Tryz.sizeOf9 (by simp[J7]) (q2b (v:=(.string x4_)) rfl Tryz.isAgg9 (z5y B7 (j:=0) hv3 (hS49.get (i:=0) rfl) hx4 rfl) (z41 (cs:=[(.string x4_)]) (e:=9) hS49 (fun _=>by kernel_rfl) ?_))
      intro b8 w25 hS51
      obtain⟨hsm4,hP⟩:=hP
      refine w7u (Ms:=fun v16=>[blk b8 9 [(.string x4_)],vec v13 9 1 left_3.length ((left_3).flatMap Qe),vec v16 9 1 ((out_3++[x4_]).length) ((out_3++[x4_]).flatMap Qe),emap b6 (fun y:Bool=>(Value.bool (y))) F_4,blk b7 177 [(.map (some b6))],blk b3 335 [(.map (some b2))],vec v6 9 1 ((cpt r1_).length) ((cpt r1_).flatMap Qe)]) (k':=(out_3++[x4_]).length) (xs':=(out_3++[x4_]).flatMap Qe) Tryz.underlying55 Tryz.type9 rfl rfl (bytes:=16) rfl rfl (Nat.succ_pos _) hS51 rfl (q:=2) rfl rfl rfl (q3v (hS51.get (i:=0) rfl)) (ones rfl) hsm4 (by omega) (by first|rfl|exact List.length_append.symm|simp) (by simp[Qe]) (fun _=>rfl) ?_
      intro v16 w26 ho12 hS52
      have hS53:=hS52.drop 0 (ms':=[vec v13 9 1 left_3.length ((left_3).flatMap Qe),vec v16 9 1 ((out_3++[x4_]).length) ((out_3++[x4_]).flatMap Qe),emap b6 (fun y:Bool=>(Value.bool (y))) F_4,blk b7 177 [(.map (some b6))],blk b3 335 [(.map (some b2))],vec v6 9 1 ((cpt r1_).length) ((cpt r1_).flatMap Qe)]) rfl
      refine Qo (v:=v16) rfl (wpList_nil (Qj (wp_seq (dr (fun z=>St ⟨w,σ,[]⟩ z σ8 [vec v13 9 1 left_3.length ((left_3).flatMap Qe),vec v16 9 1 ((out_3++[x4_]).length) ((out_3++[x4_]).flatMap Qe),blk b7 177 [(.map (some b6))],blk b3 335 [(.map (some b2))],vec v6 9 1 ((cpt r1_).length) ((cpt r1_).flatMap Qe)]) (by kernel_rfl) rfl ?_))))
      have hS54:=hS53.drew
      refine dt 0 1 (v:=(.map (some b6))) (by kernel_rfl) rfl rfl (fun _ _ _ h=>h) (hS54.sublist (.cons_cons _ (.cons_cons _ (.cons _ (List.Sublist.refl _))))) (fun _ hJ _ hK=>q2b (v:=(.map (some b6))) rfl Tryz.isAgg177 (hJ.cell (i:=2) rfl rfl) ⟨rfl,hK⟩) (dt 1 3 (v:=v13) (by kernel_rfl) rfl rfl (fun _ _ _ h=>h) (hS54.sublist (.cons_cons _ (.cons_cons _ (.cons _ (List.Sublist.refl _))))) (fun _ _ _ hK=>Qz (v:=v13) rfl ⟨rfl,hK⟩) (dt 2 7 (v:=(.int .i64 r_1)) (by kernel_rfl) rfl rfl (fun _ _ _ h=>h) (hS54.sublist (.cons_cons _ (.cons_cons _ (.cons _ (List.Sublist.refl _))))) (fun _ _ _ hK=>Qz (v:=(.int .i64 r_1)) rfl ⟨rfl,hK⟩) ?_))
      obtain⟨j2_,hj2,hP⟩:=hP
      obtain⟨x5_,hx5,hP⟩:=hP
      obtain⟨g3,cp3,hv4⟩:=j0h (hS54.get (i:=0) rfl) (Qg hx5)
      refine dt 3 15 (v:=(.pointer (some ⟨g3,j2_*1,none⟩))) (by kernel_rfl) rfl rfl (fun _ _ _ h=>h) (hS54.sublist (.cons_cons _ (.cons_cons _ (.cons _ (List.Sublist.refl _))))) (fun _ _ _ hK=>Ux (k:=j2_) (a':=⟨g3,j2_*1,none⟩) hv4 rfl hj2 (Qg hx5) Tryz.underlying55 Tryz.sizeOf9 (by simp[J7]) ⟨rfl,hK⟩) (dt 4 31 (v:=(.string x5_)) (by kernel_rfl) rfl rfl (fun _ _ _ h=>h) (hS54.sublist (.cons_cons _ (.cons_cons _ (.cons _ (List.Sublist.refl _))))) (fun _ hJ _ hK=>q2b (v:=(.string x5_)) rfl Tryz.isAgg9 (z5y B7 (j:=0) hv4 (hJ.get (i:=0) rfl) hx5 rfl) ⟨rfl,hK⟩) (d1 5 63 (by kernel_rfl) rfl (v0q (y0:=true) (i:=2) (ms':=[vec v13 9 1 left_3.length ((left_3).flatMap Qe),vec v16 9 1 ((out_3++[x4_]).length) ((out_3++[x4_]).flatMap Qe),emap b6 (fun y:Bool=>(Value.bool (y))) (put F_4 x5_ true),blk b7 177 [(.map (some b6))],blk b3 335 [(.map (some b2))],vec v6 9 1 ((cpt r1_).length) ((cpt r1_).flatMap Qe)]) hS54 rfl rfl rfl rfl Tryz.underlying177 Tryz.underlying9 rfl ?_)))
      intro w27 hS55
      refine wpList_nil ?_
      refine⟨rfl,(hS55.sublist (.cons_cons _ (.cons_cons _ (.cons _ (List.Sublist.refl _))))),z42 (J':=fun z=>St ⟨w,σ,[]⟩ z σ8 [vec v13 9 1 left_3.length ((left_3).flatMap Qe),vec v16 9 1 ((out_3++[x4_]).length) ((out_3++[x4_]).flatMap Qe),emap b6 (fun y:Bool=>(Value.bool (y))) (put F_4 x5_ true),blk b7 177 [(.map (some b6))],blk b3 335 [(.map (some b2))],vec v6 9 1 ((cpt r1_).length) ((cpt r1_).flatMap Qe)]) (fun w h=>h.sublist (.cons_cons _ (.cons_cons _ (.cons _ (List.Sublist.refl _))))) _ _ _ _ ?_⟩
      refine dz (by kernel_rfl) (Qj (z19 (Qz (v:=v13) rfl (Qz (v:=(.int .i64 r_1)) rfl (Qz (v:=(.int .i64 r_1)) rfl ?_)))))
      obtain⟨hi1,hP⟩:=hP
      refine j77 (r:=(r_1+(1:Int))) rfl rfl (nwi rfl hi1) ?_
      obtain⟨j3_,hj3,hP⟩:=hP
      obtain⟨hd1,hP⟩:=hP
      obtain⟨hd2,hP⟩:=hP
      obtain⟨hsm5,hP⟩:=hP
      have hd3:r_1=((j3_:Nat):Int)/\(r_1+(1:Int))=((j3_+1:Nat):Int):=⟨by omega,by omega⟩
      refine q3c (args:=[v13,(.int .i64 ((j3_:Nat):Int)),(.int .i64 ((j3_+1:Nat):Int))]) (by rw[←hd3.1,←hd3.2];rfl) Tryz.call232 (Calls.mono (j8a (i:=j3_) (j:=(j3_+1)) Tryz.slices_Delete_string hS55.view (hS55.get (i:=0) rfl) (fun b hb=>hS55.off _ (List.mem_of_getElem? (i:=0) rfl) b hb) (by omega) hd2 hd1) ?_)
      rintro _ w28 ⟨v17,rfl,hf2,hg7,ho13⟩
      refine⟨_,rfl,?_⟩
      have ho14:=Gc ho13
      have hS56:=hS55.growV (i:=0) (o':=vec v17 9 1 ((left_3.take j3_++left_3.drop (j3_+1)).length) ((left_3.take j3_++left_3.drop (j3_+1)).flatMap Qe)) rfl hg7 hf2 ho13 (ms':=[vec v17 9 1 ((left_3.take j3_++left_3.drop (j3_+1)).length) ((left_3.take j3_++left_3.drop (j3_+1)).flatMap Qe),vec v16 9 1 ((out_3++[x4_]).length) ((out_3++[x4_]).flatMap Qe),emap b6 (fun y:Bool=>(Value.bool (y))) (put F_4 x5_ true),blk b7 177 [(.map (some b6))],blk b3 335 [(.map (some b2))],vec v6 9 1 ((cpt r1_).length) ((cpt r1_).flatMap Qe)]) rfl
      refine Qo (v:=v17) rfl (wpList_nil (j78 (Qj ?_)))
      exact⟨left_3.take j3_++left_3.drop (j3_+1),out_3++[x4_],put F_4 x5_ true,_,rfl,hP,v17,v16,σ8,_,(Zh rfl (Zh rfl (Zh rfl (Zh rfl rfl)))),hS56,(Sub.trans hsub7 hsub8),ho14,hsm5,ho12,hsm4⟩
   ·
    replace hP:=hP.2 ht4
    refine wp_exit (q82 (q82 (z5r (Qj (Qn (Qz (v:=v14) rfl (Qo (v:=v14) rfl (Qo (v:=(.int .i64 (0:Int))) rfl (wpList_nil (Qj (wp_ret (ret2 rfl (show ev _ _ _=v14 from rfl) (show ev _ _ _=(.int .i64 (0:Int)) from rfl) ?_))))))))))))
    have hS57:=hS45.front 1 rfl (ms':=[vec v14 9 1 out_3.length ((out_3).flatMap Qe),vec v13 9 1 left_3.length ((left_3).flatMap Qe),emap b6 (fun y:Bool=>(Value.bool (y))) F_4,blk b7 177 [(.map (some b6))],blk b3 335 [(.map (some b2))],vec v6 9 1 ((cpt r1_).length) ((cpt r1_).flatMap Qe)]) rfl
    exact⟨out_3,(0:Int),v14,rfl,(St.back (hS57.keep 1 (ms':=[vec v14 9 1 out_3.length ((out_3).flatMap Qe)]) rfl) (Sub.refl _)),hl9,hP⟩
end Go.Proofs.YtjepffgpbidclaaGreatDoor
end
noncomputable section
set_option maxRecDepth 100000
open Go Go.RowKit Go.Fl Go.Fl.Lk Go.Fx
namespace Go.En
theorem z5g{σ:Hv}{w:World}{g:Nat}{T:C}{n:Nat}{l:List (car T)}(hV:View σ w)(hs:SRep D (fun _=>none) σ (.pointer (some ⟨g,0,none⟩)) (.fap T n l)){i j:Nat}{x:car T}{s:FV Sg}(hx:l[i]? =some x)(hj:(D.shape T x)[j]? =some s)(hz:j<D.size T):
  ∃v,w.cell? ⟨g,i*D.size T+j,none⟩=some v/\RepF D σ v s:=by
 generalize hq:Value.pointer (some (⟨g,0,none⟩:Addr))=q at hs
 cases hs with
 |fap ad cs T' N l' hN h hl hr=>
  cases hq
  have hrow:=hr i x hx
  have hlen:=okP.ok.len T x
  have hjl:j<((cs.drop (i*D.size T)).take (D.size T)).length:=by rw[hrow.1,hlen];exact hz
  obtain⟨v,hv⟩: ∃v,((cs.drop (i*D.size T)).take (D.size T))[j]? =some v:=⟨_,List.getElem?_eq_getElem hjl⟩
  refine⟨v,?_,hrow.2 j v s hv hj⟩
  rw[List.getElem?_take,if_pos hz,List.getElem?_drop] at hv
  have:=hV.cell (h _ v hv)
  rw[J7,Nat.zero_add] at this
  exact this
theorem w5m: ∀c,c<256->j7h[c]? =some ((Go.Lib.firstT c:Nat):Int):=by decide
theorem v1j: ∀i,i<16->(z6l[i]?).map (fun a=>(a.lo,a.hi))=some (((Go.Lib.accLo i:Nat):Int),((Go.Lib.accHi i:Nat):Int)):=by decide
theorem tabs{σ:Hv}{w:World}(hV:View σ w)(hG:Glb D σ):Go.Lib.Utf8Tabs (Proofs.Tryz.lays196_ren.g 3) (Proofs.Tryz.lays196_ren.g 4) w:=by
 refine⟨fun c hc=> ?_,fun i hi=> ?_⟩
 ·have h:=hG.known (Proofs.Tryz.lays196_ren.g 3)
  obtain⟨v,h1,h2⟩:=z5g (T:= .u8) (n:=256) (l:=j7h) hV h (i:=c) (j:=0) (s:= .int .u8 ((Go.Lib.firstT c:Nat):Int)) (w5m c hc) rfl (by decide)
  cases h2
  simpa [show D.size C.u8=1 from rfl] using h1
 ·have h:=hG.known (Proofs.Tryz.lays196_ren.g 4)
  have ha:=v1j i hi
  obtain⟨a,e1,e2⟩:=Option.map_eq_some_iff.1 ha
  obtain⟨v,h1,h2⟩:=z5g (T:= .acc) (n:=16) (l:=z6l) hV h (i:=i) (j:=0) (s:= .int .u8 a.lo) e1 rfl (by decide)
  obtain⟨v',h1',h2'⟩:=z5g (T:= .acc) (n:=16) (l:=z6l) hV h (i:=i) (j:=1) (s:= .int .u8 a.hi) e1 rfl (by decide)
  cases h2;cases h2'
  simp only[Prod.mk.injEq] at e2
  rw[e2.1] at h1;rw[e2.2] at h1'
  refine⟨by rw[Nat.mul_comm];simpa [show D.size C.acc=2 from rfl] using h1,by rw[Nat.mul_comm];simpa [show D.size C.acc=2 from rfl] using h1'⟩
theorem j5p{w w':World}(h:Below w.heap.size w w'):Keeps [] w w':=⟨h.os,h.tape,h.output,h.size,fun k hk _=>h.block k hk⟩
theorem q4u{σ:Hv}{w w1:World}{args:List (Tr Sg)}{vals:List Value}{K:List (Tr Sg)->List (Tr Sg)->Prop}{rets outs:List (Tr Sg)}{rv:List Value}(hS:St ⟨w,σ,feet []⟩ w σ [])(hK:K rets outs)(hb:Below w.heap.size w w1)(hL:LayL D σ rets rv [])(hT:LayT D σ args outs vals [] []):
  Back D σ w args vals [] K (.returned (retV rv)) w1:=by
 have hk:=j5p hb
 refine⟨rets,outs,rv,σ,[],[],rfl,hK,hL,hT,?_⟩
 refine⟨hk,fun b o hbo=> ?_,Sub.refl _,fun _ _ _=>rfl,by simp,by simp,by simp,by simp⟩
 have h1:=hS.view b o hbo
 have hlt:b<w.heap.size:=by
  rcases Nat.lt_or_ge b w.heap.size with h|h
  ·exact h
  ·rw[Array.getElem?_eq_none h] at h1;cases h1
 rw[hk.block b hlt (by simp)];exact h1
theorem z02:q4p Proofs.Tryz.prog D 262 (conV ([.v]:LP) ([.str]:LV) ([.bool]:LV) ([.same]:LV) (fun a K=>Wc a.1 (fun q0=>K (q0,()) ((),())))):=by
 intro args K hm w σ vals ins hG hL hS
 obtain⟨a,ha,hm⟩:=Qf hm
 have hargs:=Jq ha
 subst hargs
 obtain⟨s,_⟩:=a
 cases hL with
 |cons hp hr=>
 cases hr
 cases hp with
 |f hf=>
 cases hf
 have hm:s.size<=9223372036854775807/\K [.f (.bool (Go.Lib.validD s.data.toList))] [.same]:=hm
 refine Calls.mono (Go.Proofs.Any.utf8_ValidString Proofs.Tryz.lays196 s w hm.1 (tabs hS.view hG)) ?_
 rintro e w' ⟨rfl,hb⟩
 exact q4u (rv:=[.bool (Go.Lib.validD s.data.toList)]) hS hm.2 hb (.cons (ms:=[]) (.f (.bool _)) .nil) (.skip (a0:=[]) .nil)
theorem z03:q4p Proofs.Tryz.prog D 188 (conV ([.v,.v]:LP) ([.str,.str]:LV) ([.bool]:LV) ([.same,.same]:LV) (fun a K=>H7 a.1 a.2.1 (fun q0=>K (q0,()) ((),(),())))):=by
 intro args K hm w σ vals ins hG hL hS
 obtain⟨a,ha,hm⟩:=Qf hm
 have hargs:=Jq ha
 subst hargs
 obtain⟨s,t,_⟩:=a
 cases hL with
 |cons hp hr=>
 cases hr with
 |cons hq hr=>
 cases hr
 cases hp with
 |f hf=>
 cases hf
 cases hq with
 |f hf=>
 cases hf
 have hm:s.size<4294967281/\K [.f (.bool (Go.Lib.contains s.data.toList t.data.toList))] [.same,.same]:=hm
 obtain⟨n,hn⟩:=hG.free 2 .i64 rfl
 refine Calls.mono (Proofs.Tryz.strings_Contains s t n w hm.1 (hS.view.cell hn)) ?_
 rintro e w' ⟨rfl,rfl⟩
 exact q4u (rv:=[.bool (Go.Lib.contains s.data.toList t.data.toList)]) hS hm.2 (Below.refl _ _) (.cons (ms:=[]) (.f (.bool _)) .nil) (.skip (a0:=[]) (.skip (a0:=[]) .nil))
theorem z8k:q4p Proofs.Tryz.prog D 265 (conV ([.v]:LP) ([.str]:LV) ([.int .i64,.ifc]:LV) ([.same]:LV) (fun a K=>Bv a.1 (fun q0 q1=>K (q0,q1,()) ((),())))):=by
 intro args K hm w σ vals ins hG hL hS
 obtain⟨a,ha,hm⟩:=Qf hm
 have hargs:=Jq ha
 subst hargs
 obtain⟨s,_⟩:=a
 cases hL with
 |cons hp hr=>
 cases hr
 cases hp with
 |f hf=>
 cases hf
 have hm:s.size<=281474976710656/\w5l s (fun n b=>K [.f (.int .i64 n),.f (.ifc b)] [.same]):=hm
 obtain⟨hsz,hm⟩:=hm
 have err: ∀g:Nat,D.glob g= .fptr [.ifc false] 0-> ∃ev,w.cell? ⟨g,0,none⟩=some ev/\(ev= .nilIface∨ ∃te pe,ev= .iface te pe):=by
  intro g hg
  have h:=hG.known g
  rw[hg] at h
  generalize hq:Value.pointer (some (⟨g,0,none⟩:Addr))=q at h
  cases h with
  |fptr ad cs l off hv hr=>
  cases hq
  obtain⟨v,hvl⟩: ∃v,cs=[v]:=List.length_eq_one_iff.1 hr.1
  subst hvl
  have hc:=hS.view.cell (hv 0 v rfl)
  have hR:=hr.2 0 v _ rfl rfl
  refine⟨v,?_,?_⟩
  ·rw[J7] at hc;exact hc
  ·cases hR with
   |ifcS t p=>exact .inr ⟨t,p,rfl⟩
 unfold w5l at hm
 split at hm
 ·rename_i v hv
  refine Calls.mono (Proofs.Tryz.strconv_Atoi_ok s (by omega) v hv w) ?_
  rintro e w' ⟨rfl,hw⟩
  have hb:Below w.heap.size w w':=by
   rcases hw with rfl|⟨t,rfl⟩
   ·exact Below.refl _ _
   ·exact Go.Lib.bytesWorld_below _ _ _
  exact q4u (rv:=[.int .i64 v,.nilIface]) hS hm hb (.cons (ms:=[]) (.f (.int _ _)) (.cons (ms:=[]) (.f .ifcN) .nil)) (.skip (a0:=[]) .nil)
 ·rename_i hv
  obtain⟨ev,h1,h2⟩:=err 6 rfl
  refine Calls.mono (Proofs.Tryz.strconv_Atoi_range s hsz hv ev w h1 h2) ?_
  rintro e w' ⟨N,rfl,_,_,hb⟩
  exact q4u (rv:=[.int .i64 _,.iface _ _]) hS hm hb (.cons (ms:=[]) (.f (.int _ _)) (.cons (ms:=[]) (.f (.ifcS _ _)) .nil)) (.skip (a0:=[]) .nil)
 ·rename_i hv
  obtain⟨ev,h1,h2⟩:=err 5 rfl
  refine Calls.mono (Proofs.Tryz.strconv_Atoi_syntax s hsz hv ev w h1 h2) ?_
  rintro e w' ⟨N,rfl,_,_,hb⟩
  exact q4u (rv:=[.int .i64 _,.iface _ _]) hS hm hb (.cons (ms:=[]) (.f (.int _ _)) (.cons (ms:=[]) (.f (.ifcS _ _)) .nil)) (.skip (a0:=[]) .nil)
theorem q8j(l:List ByteArray):l.flatMap Qe=l.map Value.string:=by
 induction l with
 |nil=>rfl
 |cons a l ih=>rw[List.flatMap_cons,List.map_cons,ih];rfl
theorem v1k(l:List ByteArray):(cpt l).length<=l.length:=by
 unfold cpt Go.Lib.compact
 rw[List.length_map]
 have h: ∀(d:Array (List UInt8)) (m:Nat),(Go.Lib.compactUpTo d m).length<=m:=by
  intro d m
  unfold Go.Lib.compactUpTo
  rw[List.length_map]
  exact Nat.le_trans (List.length_filter_le _ _) (by simp)
 simpa using h _ _
theorem w1u{σ:Hv}{xs:List Value}{l:List ByteArray}(h:Els D σ C.str xs l):xs=l.flatMap Qe:=by
 have h1:xs.length=l.length:=by rw[h.1];exact Nat.mul_one _
 rw[q8j]
 refine List.ext_getElem? fun i=> ?_
 rw[List.getElem?_map]
 rcases Nat.lt_or_ge i l.length with hi|hi
 ·obtain⟨v,hv⟩: ∃v,xs[i]? =some v:=⟨_,List.getElem?_eq_getElem (by omega)⟩
  obtain⟨x,hx⟩: ∃x,l[i]? =some x:=⟨_,List.getElem?_eq_getElem hi⟩
  have hR:=(h.2 i x hx).2 0 v (.str x) (by rw[show D.size C.str=1 from rfl,Nat.mul_one,List.getElem?_take,if_pos (by decide),List.getElem?_drop];exact hv) rfl
  rw[hv,hx]
  cases hR
  rfl
 ·rw[List.getElem?_eq_none (by omega),List.getElem?_eq_none hi];rfl
theorem z6v(σ:Hv)(l:List ByteArray):Els D σ C.str (l.flatMap Qe) l:=by
 rw[q8j]
 refine⟨by rw[List.length_map];exact (Nat.mul_one _).symm,fun i x hx=> ?_⟩
 rw[show D.size C.str=1 from rfl,Nat.mul_one]
 have hx:l[i]? =some x:=hx
 have e:((l.map Value.string).drop i).take 1=[.string x]:=by
  rw[←List.map_drop,List.drop_eq_getElem_cons (List.getElem?_eq_some_iff.1 hx).1,(List.getElem?_eq_some_iff.1 hx).2];rfl
 rw[e]
 refine⟨rfl,fun j v s hj hs=> ?_⟩
 cases j with
 |zero=>cases hj;cases hs;exact .str x
 |succ j=>cases hj
theorem q1m:q4p Proofs.Tryz.prog D 93 (conV ([.own 9 C.str]:LP) ([.vec 9 C.str]:LV) ([]:LV) ([.vec 9 C.str]:LV) (fun a K=>Zv a.1 (fun q0=>K () (q0,())))):=by
 intro args K hm w σ vals ins hG hL hS
 obtain⟨a,ha,hm⟩:=Qf hm
 have hargs:=Jq ha
 subst hargs
 obtain⟨s,_⟩:=a
 cases hL with
 |cons hp hr=>
 cases hr
 cases hp with
 |vec hE hl h1=>
 have hx:=w1u hE
 subst hx
 have hm:K [] [.vec 9 C.str (srt s)]:=hm
 refine Calls.mono (j6r Proofs.Tryz.slices_Sort_string Proofs.Tryz.slices_Sort_string_none hS.view (hS.get (i:=0) rfl) rfl (fun b hb=>hS.off _ (List.mem_of_getElem? (i:=0) rfl) b hb) (by omega)) ?_
 rintro _ w1 ⟨rfl,hg,ho⟩
 have hS1:=hS.growV (i:=0) (o':=vec _ 9 1 s.length ((srt s).flatMap Qe)) rfl hg rfl ho (ms':=[vec _ 9 1 s.length ((srt s).flatMap Qe)]) rfl
 refine⟨[],_,[],σ,[],[vec _ 9 1 (srt s).length ((srt s).flatMap Qe)],rfl,hm,.nil,.keep (.vec (z6v σ _) (Nat.le_trans (Nat.le_of_eq (Z2 _)) hl) h1) .nil,?_⟩
 have e:(srt s).length=s.length:=Z2 _
 rw[e];exact hS1
theorem Bk:q4p Proofs.Tryz.prog D 94 (conV ([.own 9 C.str]:LP) ([.vec 9 C.str]:LV) ([.vec 9 C.str]:LV) ([.same]:LV) (fun a K=>Z4 a.1 (fun q0=>K (q0,()) ((),())))):=by
 intro args K hm w σ vals ins hG hL hS
 obtain⟨a,ha,hm⟩:=Qf hm
 have hargs:=Jq ha
 subst hargs
 obtain⟨s,_⟩:=a
 cases hL with
 |cons hp hr=>
 cases hr
 cases hp with
 |vec hE hl h1=>
 have hx:=w1u hE
 subst hx
 have hm:K [.vec 9 C.str (cpt s)] [.same]:=hm
 refine Calls.mono (z5x Proofs.Tryz.slices_Compact_string Proofs.Tryz.slices_Compact_string_empty hS.view (hS.get (i:=0) rfl) rfl (fun b hb=>hS.off _ (List.mem_of_getElem? (i:=0) rfl) b hb) (by omega)) ?_
 rintro _ w1 ⟨v1,rfl,hf,hg,ho⟩
 have hlc:(cpt s).length<=140737488355328:=Nat.le_trans (v1k _) hl
 have hS1:=hS.growV (i:=0) (o':=vec v1 9 1 (cpt s).length ((cpt s).flatMap Qe)) rfl hg hf ho (ms':=[vec v1 9 1 (cpt s).length ((cpt s).flatMap Qe)]) rfl
 exact⟨[.vec 9 C.str (cpt s)],[.same],[v1],σ,[vec v1 9 1 (cpt s).length ((cpt s).flatMap Qe)],[],rfl,hm,.cons (.vec (z6v σ _) hlc (Gc ho)) .nil,.skip .nil,hS1⟩
theorem w9a{σ:Hv}{v:Value}{l:List ByteArray}(h:RepF D σ v (.sl C.str l)):RSl 1 (REnc Qe) σ v l:=by
 obtain⟨a,cap,e1,e2,e3,e4⟩:=h.toRSl okP.ok
 refine⟨a,cap,e1,e2,e3,fun i x hx=> ?_⟩
 obtain⟨ad,cs,f1,f2,f3,f4⟩:=e4 i x hx
 refine⟨ad,cs,f1,f2,f3,?_⟩
 obtain⟨u,rfl⟩: ∃u,cs=[u]:=List.length_eq_one_iff.1 f2
 have g1:=f4.2 0 u (.str x) rfl rfl
 cases g1
 rfl
theorem w5n{σ:Hv}{v:Value}{l:List Edg}(h:RepF D σ v (.sl C.edge l)):RSl 2 (REnc v0s) σ v (l.map fun e=>(e.1,e.2)):=by
 obtain⟨a,cap,e1,e2,e3,e4⟩:=h.toRSl okP.ok
 have hl:(l.map fun e=>(e.1,e.2)).length=l.length:=List.length_map ..
 refine⟨a,cap,by rw[hl];exact e1,by rw[hl];exact e2,by rw[hl];exact e3,fun i x hx=> ?_⟩
 rw[List.getElem?_map] at hx
 obtain⟨y,hy,rfl⟩:=Option.map_eq_some_iff.1 hx
 obtain⟨ad,cs,f1,f2,f3,f4⟩:=e4 i y hy
 refine⟨ad,cs,f1,f2,f3,?_⟩
 obtain⟨u,v,rfl⟩: ∃u v,cs=[u,v]:=by
  match cs,f2 with
  |[u,v],_=>exact⟨u,v,rfl⟩
 have g1:=f4.2 0 u (.str y.src) rfl rfl
 have g2:=f4.2 1 v (.str y.dst) rfl rfl
 cases g1;cases g2
 rfl
theorem j00:q4p Proofs.Tryz.prog D 191 (conV ([.sl C.str,.sl C.edge]:LP) ([.sl C.str,.sl C.edge]:LV) ([.vec 9 C.str,.int .i64]:LV) ([.same,.same]:LV) (fun a K=>P_graph_Order a.1 a.2.1 (fun q0 q1=>K (q0,q1,()) ((),(),())))):=by
 intro args K hm w σ vals ins hG hL hS
 obtain⟨a,ha,hm⟩:=Qf hm
 have hargs:=Jq ha
 subst hargs
 obtain⟨s,t,_⟩:=a
 cases hL with
 | @cons _ _ v1 _ _ _ hp hr=>
 cases hr with
 | @cons _ _ v2 _ _ _ hq hr=>
 cases hr
 cases hp with
 |f hf1=>
 cases hq with
 |f hf2=>
 have hm:Go.Fl.P_graph_Order s (t.map fun e=>(e.1,e.2)) (fun l n=>K [.vec 9 C.str l,.f (.int .i64 n)] [.same,.same]):=hm
 refine Calls.mono (Go.Proofs.YtjepffgpbidclaaGreatDoor.w_graph_Order s (t.map fun e=>(e.1,e.2)) v1 v2 hS.view (w9a hf1) (w5n hf2) hm) ?_
 rintro e w1 ⟨l,n,v,rfl,hS1,hsm,hK⟩
 have hl:l.length<=140737488355328:=by unfold Sml at hsm;omega
 exact⟨[.vec 9 C.str l,.f (.int .i64 n)],[.same,.same],[v,.int .i64 n],σ,[vec v 9 1 l.length (l.flatMap Qe)],[],rfl,hK,.cons (.vec (z6v σ _) hl (Gc (hS1.get (i:=0) rfl))) (.cons (ms:=[]) (.f (.int _ _)) .nil),.skip (a0:=[]) (.skip (a0:=[]) .nil),hS1⟩
theorem z6w:q4p Proofs.Tryz.prog D 245 (conV ([.v,.v]:LP) ([.str,.str]:LV) ([.vec 9 C.str]:LV) ([.same,.same]:LV) (fun a K=>q2k a.1 a.2.1 (fun q0=>K (q0,()) ((),(),())))):=by
 intro args K hm w σ vals ins hG hL hS
 obtain⟨a,ha,hm⟩:=Qf hm
 have hargs:=Jq ha
 subst hargs
 obtain⟨s,t,_⟩:=a
 cases hL with
 |cons hp hr=>
 cases hr with
 |cons hq hr=>
 cases hr
 cases hp with
 |f hf=>
 cases hf
 cases hq with
 |f hf=>
 cases hf
 have hm:t.size=1/\s.size<4294967281/\K [.vec 9 C.str (Ho s t)] [.same,.same]:=hm
 obtain⟨h1,hsz,hm⟩:=hm
 obtain⟨n,hn⟩:=hG.free 2 .i64 rfl
 have hlen:(Ho s t).length=Go.Lib.countB s t+1:=Go.Lib.splitB_all t (by omega) 0 _ s rfl
 have hcnt:=Go.Lib.countB_le t (by omega) s.size s (Nat.le_refl _)
 refine Calls.mono (Proofs.Tryz.strings_Split s t n w hsz (hS.view.cell hn) (by omega)) ?_
 rintro e w' ⟨rfl,rfl⟩
 have ho:(vec (.slice (some ⟨w.heap.size,0,none⟩) (Ho s t).length (Ho s t).length) 9 1 (Ho s t).length ((Ho s t).flatMap Qe)).ok (w.alloc (.cells ((Ho s t).map Value.string).toArray 9)):=by
  refine⟨by rw[q8j];simp,.inr ⟨w.heap.size,_,_,rfl,Nat.zero_le _,heap_alloc_new _ _,Nat.le_refl _,by unfold maxLen;omega,by simp,?_⟩⟩
  rw[q8j,Nat.mul_one]
  exact List.take_of_length_le (by rw[List.length_map];exact Nat.le_refl _)
 have hS1:=hS.add (Je w _) ho (by rintro k ⟨⟩;exact Nat.le_refl _)
 have hl:(Ho s t).length<=140737488355328:=by omega
 have hr:=(⟨[.vec 9 C.str (Ho s t)],[.same,.same],[_],σ,[_],[],rfl,hm,.cons (.vec (z6v σ _) hl (Gc ho)) .nil,.skip (a0:=[]) (.skip (a0:=[]) .nil),hS1⟩:Back D σ w [.f (.str s),.f (.str t)] [.string s,.string t] [] K (.returned (retV [.slice (some ⟨w.heap.size,0,none⟩) (Ho s t).length (Ho s t).length])) (w.alloc (.cells ((Ho s t).map Value.string).toArray 9)))
 rw[hlen] at hr
 exact hr
theorem v3p: ∀c,c<256->j7i[c]? =some (if Go.Lib.isSp (UInt8.ofNat c) then (1:Int) else 0):=by decide
theorem w1v: ∀(ws:Bool) (l:List UInt8),Go.Lib.cntF ws l<=l.length
 |_,[]=>by simp[Go.Lib.cntF]
 |ws,b::l=>by
  have:=w1v (Go.Lib.isSp b) l
  simp only[Go.Lib.cntF,List.length_cons]
  split<;>omega
theorem z4e:q4p Proofs.Tryz.prog D 85 (conV ([.v]:LP) ([.str]:LV) ([.vec 9 C.str]:LV) ([.same]:LV) (fun a K=>q0o a.1 (fun q0=>K (q0,()) ((),())))):=by
 intro args K hm w σ vals ins hG hL hS
 obtain⟨a,ha,hm⟩:=Qf hm
 have hargs:=Jq ha
 subst hargs
 obtain⟨s,_⟩:=a
 cases hL with
 |cons hp hr=>
 cases hr
 cases hp with
 |f hf=>
 cases hf
 have hm:s.size<4294967281/\w1s s/\K [.vec 9 C.str (W7 s)] [.same]:=hm
 obtain⟨hsz,hasc,hm⟩:=hm
 have hT: ∀c:Nat,c<256->w.cell? ⟨Proofs.Tryz.lays157_ren.g 0,c,none⟩=some (.int .u8 (if Go.Lib.isSp (UInt8.ofNat c) then 1 else 0)):=fun c hc=>by
  have h:=hG.known (Proofs.Tryz.lays157_ren.g 0)
  obtain⟨v,h1,h2⟩:=z5g (T:= .u8) (n:=256) (l:=j7i) hS.view h (i:=c) (j:=0) (s:= .int .u8 (if Go.Lib.isSp (UInt8.ofNat c) then 1 else 0)) (v3p c hc) rfl (by decide)
  cases h2
  simpa [show D.size C.u8=1 from rfl] using h1
 have hlen:(W7 s).length=(Go.Lib.fields s.data.toList).length:=by unfold W7;rw[List.length_map]
 have hcnt:(Go.Lib.fields s.data.toList).length<=s.size:=by rw[Go.Lib.fields_length];exact Nat.le_trans (w1v _ _) (Nat.le_of_eq rfl)
 refine Calls.mono (Go.Proofs.Any.strings_Fields_core Proofs.Tryz.lays157 (by kernel_rfl) s w hsz hasc hT) ?_
 rintro e w' ⟨rfl,rfl⟩
 rw[show (Go.Lib.fields s.data.toList).map (fun l=>Value.string ⟨l.toArray⟩)=(W7 s).map Value.string by unfold W7;rw[List.map_map];rfl,←hlen]
 rw[←hlen] at hcnt
 have ho:(vec (.slice (some ⟨w.heap.size,0,none⟩) (W7 s).length (W7 s).length) 9 1 (W7 s).length ((W7 s).flatMap Qe)).ok (w.alloc (.cells ((W7 s).map Value.string).toArray 9)):=by
  refine⟨by rw[q8j];simp,.inr ⟨w.heap.size,_,_,rfl,Nat.zero_le _,heap_alloc_new _ _,Nat.le_refl _,by unfold maxLen;omega,by simp,?_⟩⟩
  rw[q8j,Nat.mul_one]
  exact List.take_of_length_le (by rw[List.length_map];exact Nat.le_refl _)
 have hS1:=hS.add (Je w _) ho (by rintro k ⟨⟩;exact Nat.le_refl _)
 exact (⟨[.vec 9 C.str (W7 s)],[.same],[_],σ,[_],[],rfl,hm,.cons (.vec (z6v σ _) (by omega) (Gc ho)) .nil,.skip (a0:=[]) .nil,hS1⟩:Back D σ w [.f (.str s)] [.string s] [] K (.returned (retV [.slice (some ⟨w.heap.size,0,none⟩) (W7 s).length (W7 s).length])) (w.alloc (.cells ((W7 s).map Value.string).toArray 9)))
end Go.En
end
noncomputable section
set_option maxRecDepth 100000
open Go Go.RowKit Go.Fl Go.Fl.Lk Go.Fx
namespace Go.En
def z6x(X:q47):Con Sg:=conS [] [.vec 9 C.str] fun _ K=>X (fun q0=>K (q0,()))
theorem j5q:MT 19 (z6x q9p):=mS (l:=[]) trivial []
def G6(X:Jf):Con Sg:=conS [.int .u8,.int .u8,.int .u16,.int .u16,.int .u16] [.el C.env] fun a K=>X a.1 a.2.1 a.2.2.1 a.2.2.2.1 a.2.2.2.2.1 (fun q0=>K (q0,()))
theorem z4f{Wm:q47}(h:AL [(19,z6x Wm)]):MT 28 (G6 (q0k Wm)):=mS h [(13,⟨bl 68702731295,[4,1,0],[(2,(42,8))],[sI 15,(.cell 2 5,.own 84 C.flag)]⟩),(21,⟨bl 273606445743135,[6,2],[(7,(84,13))],[sI 17,(.cell 7 2,.own 65 C.val)]⟩),(31,⟨bl 1099494915103,[6,4,1,0],[(2,(42,8))],[sI 18,(.cell 2 6,.own 91 C.layer)]⟩),(45,⟨bl 324518398916143177040605671652383,[8,6,4,1,0],[(2,(42,8))],[sI 22,(.cell 2 7,.own 97 C.exper)]⟩)]
theorem q6m:MT 28 (G6 Vt):=z4f ⟨j5q,trivial⟩
def j3u(X:z0w):Con Sg:=conS [.str] [.el C.subj] fun a K=>X a.1 (fun q0=>K (q0,()))
theorem w1w:MT 23 (j3u z6m):=mS (l:=[]) trivial []
def q2w(X:Wt):Con Sg:=conS [.el C.subj,.str] [.int .i64] fun a K=>X a.1 a.2.1 (fun q0=>K (q0,()))
theorem q7c:MT 99 (q2w Uj):=mS (l:=[]) trivial [(135000005,⟨bl 195,[1],[],[sI 8]⟩)]
def Rr(X:J9):Con Sg:=conS [.el C.val] [.el C.val] fun a K=>X a.1 (fun q0=>K (q0,()))
theorem q5v:MT 122 (Rr Wa):=mS (l:=[]) trivial []
def Bl(X:Wu):Con Sg:=conS [.el C.attr] [.el C.attr] fun a K=>X a.1 (fun q0=>K (q0,()))
theorem z29{Ze:J9}(h:AL [(122,Rr Ze)]):MT 137 (Bl (Bb Ze)):=mS h []
theorem z3a:MT 137 (Bl U0):=z29 ⟨q5v,trivial⟩
def q2x(X:Uk):Con Sg:=conS [.el C.ctx] [.el C.ctx] fun a K=>X a.1 (fun q0=>K (q0,()))
theorem z6y{U7:Wu}(h:AL [(137,Bl U7)]):MT 100 (q2x (q2h U7)):=mS h [(137000007,⟨bl 7955,[],[],[(.slot 5,.own 244 C.attr),sI 13]⟩)]
theorem z6z:MT 100 (q2x Hx):=z6y ⟨z3a,trivial⟩
def Gt(X:Z5):Con Sg:=conS [.el C.subj,.str] [.el C.ctx,.bool] fun a K=>X a.1 a.2.1 (fun q0 q1=>K (q0,q1,()))
theorem z8l{Zy:Wt}{R2:Uk}(h:AL [(99,q2w Zy),(100,q2x R2)]):MT 67 (Gt (q3x Zy R2)):=mS h []
theorem q38:MT 67 (Gt V3):=z8l ⟨q7c,z6z,trivial⟩
def q88(X:Br):Con Sg:=conS [.sl C.bytes] [.vec 5 C.u8] fun a K=>X a.1 (fun q0=>K (q0,()))
theorem z8m:MT 112 (q88 Bt):=mS (l:=[]) trivial [(7,⟨bl 389,[],[],[(.slot 3,.own 5 C.u8),sI 9]⟩),(13,⟨bl 8101,[],[],[(.slot 3,.own 5 C.u8),sI 6]⟩)]
def q2y(X:W8):Con Sg:=conS [.int .u64,.int .i64] [.int .u64] fun a K=>X a.1 a.2.1 (fun q0=>K (q0,()))
theorem q9z:MT 192 (q2y W9):=mS (l:=[]) trivial []
def Wp(X:Zm):Con Sg:=conV [.ptr 253 [.v,.v,.v,.v],.v] [.ptr 253 [.int .u64,.int .u64,.int .u64,.int .u64],.int .i64] [] [.ptr 253 [.int .u64,.int .u64,.int .u64,.int .u64],.same] fun a K=>X a.1.1 a.1.2.1 a.1.2.2.1 a.1.2.2.2.1 a.2.1 (fun q0 q1 q2 q3=>K () ((q0,q1,q2,q3,()),(),()))
theorem q8v{Q6:W8}(h:AL [(192,q2y Q6)]):MT 148 (Wp (Ge Q6)):=mP (rk:=[]) h [(3,⟨[0,1,4],[],[(0,(253,4))],[sI 5,(.cell 0 0,.int IntKind.u64),(.cell 0 1,.int IntKind.u64),(.cell 0 2,.int IntKind.u64),(.cell 0 3,.int IntKind.u64)]⟩)]
theorem q00:MT 148 (Wp Q8):=q8v ⟨q9z,trivial⟩
def Rs(X:Wb):Con Sg:=conV [.ptr 253 [.v,.v,.v,.v],.v] [.ptr 253 [.int .u64,.int .u64,.int .u64,.int .u64],.int .u64] [] [.ptr 253 [.int .u64,.int .u64,.int .u64,.int .u64],.same] fun a K=>X a.1.1 a.1.2.1 a.1.2.2.1 a.1.2.2.2.1 a.2.1 (fun q0 q1 q2 q3=>K () ((q0,q1,q2,q3,()),(),()))
theorem z04{Q1:Zm}(h:AL [(148,Wp Q1)]):MT 147 (Rs (Hy Q1)):=mP (rk:=[]) h []
theorem z05:MT 147 (Rs V9):=z04 ⟨q00,trivial⟩
end Go.En
end
noncomputable section
set_option maxRecDepth 100000
open Go Go.RowKit Go.Fl Go.Fl.Lk Go.Fx
namespace Go.En
def q7d(X:q0a):Con Sg:=conS [.int .u64,.int .u64,.sl C.u8] [.int .u64] fun a K=>X a.1 a.2.1 a.2.2.1 (fun q0=>K (q0,()))
theorem j3v{Wi:Wb}{Q1:Zm}(h:AL [(147,Rs Wi),(148,Wp Q1)]):MT 111 (q7d (q64 Wi Q1)):=mS h [(9,⟨bl 67101127,[],[(0,(253,4))],[sI 9,(.cell 0 0,.int IntKind.u64),(.cell 0 1,.int IntKind.u64),(.cell 0 2,.int IntKind.u64),(.cell 0 3,.int IntKind.u64)]⟩),(17,⟨bl 2147476423,[0],[],[(.slot 10,.int IntKind.u64),sI 33]⟩),(29,⟨bl 15762600843272903,[0],[],[(.slot 8,.int IntKind.u64),sI 54]⟩)]
theorem j3w:MT 111 (q7d q3f):=j3v ⟨z05,q00,trivial⟩
def q5w(X:Hz):Con Sg:=conS [.int .u64,.sl C.bytes] [.int .u64] fun a K=>X a.1 a.2.1 (fun q0=>K (q0,()))
theorem j01{B0:Br}{q3q:q0a}(h:AL [(112,q88 B0),(111,q7d q3q)]):MT 80 (q5w (q48 B0 q3q)):=mS h []
theorem j02:MT 80 (q5w q05):=j01 ⟨z8m,j3w,trivial⟩
def Bm(X:Jr):Con Sg:=conS [.str,.str] [.int .i64] fun a K=>X a.1 a.2.1 (fun q0=>K (q0,()))
theorem j5r{q1t:Hz}(h:AL [(80,q5w q1t)]):MT 35 (Bm (q9q q1t)):=mS h []
theorem q5x:MT 35 (Bm Va):=j5r ⟨j02,trivial⟩
def q7e(X:H0):Con Sg:=conS [.sl C.forced,.str] [.el C.forced,.bool] fun a K=>X a.1 a.2.1 (fun q0 q1=>K (q0,q1,()))
theorem z60:MT 68 (q7e H1):=mS (l:=[]) trivial [(5,⟨bl 787,[],[(0,(142,3))],[sI 10,(.cell 0 0,.str),(.cell 0 1,.str),(.cell 0 2,.int .i64)]⟩)]
def z06(X:q06):Con Sg:=conS [.el C.env,.el C.forced] [.bool] fun a K=>X a.1 a.2.1 (fun q0=>K (q0,()))
theorem j03:MT 69 (z06 q07):=mSg 8 (l:=[]) trivial [(46000005,⟨bl 195,[1],[],[sI 8]⟩),(139000005,⟨bl 195,[],[],[sI 8]⟩)]
def q5y(X:H2):Con Sg:=conS [.el C.env,.el C.subj] [.bool] fun a K=>X a.1 a.2.1 (fun q0=>K (q0,()))
theorem j04{Q4:Z5}{Qs:Jr}(h:AL [(67,Gt Q4),(35,Bm Qs)]):MT 70 (q5y (q49 Q4 Qs)):=mS h []
theorem j05:MT 70 (q5y q08):=j04 ⟨q38,q5x,trivial⟩
def q1n(X:U1):Con Sg:=conS [.int .i64] [.bool] fun a K=>X a.1 (fun q0=>K (q0,()))
theorem z07:MT 182 (q1n Vb):=mS (l:=[]) trivial []
def Jh(X:Qx):Con Sg:=conS [.sl C.str,.sl C.str] [.bool] fun a K=>X a.1 a.2.1 (fun q0=>K (q0,()))
theorem V0:MT 216 (Jh Q7):=mS (l:=[]) trivial [(9,⟨bl 8131,[],[],[sI 13]⟩)]
def q3m(X:q0b):Con Sg:=conS [.el C.val,.el C.val] [.bool] fun a K=>X a.1 a.2.1 (fun q0=>K (q0,()))
theorem j3x{Qk:Qx}(h:AL [(216,Jh Qk)]):MT 280 (q3m (q65 Qk)):=mS h []
theorem j3y:MT 280 (q3m Hp):=j3x ⟨V0,trivial⟩
def q5z(X:Ul):Con Sg:=conV [.el C.ex,.el C.ex] [.el C.ex,.el C.ex] [.bool] [.same,.same] fun a K=>X a.1 a.2.1 (fun q0=>K (q0,()) ((),(),()))
def z3y:PT:=Qw ([(280000009,⟨bl 130055,[],[],[sI 17]⟩),(282000009,⟨bl 130055,[],[],[sI 17]⟩)]:LS)
theorem j06(q3r:q0b)(X:Ul)(a:Ex)(b:Ex)(K:Bool->Prop):q9r q3r X a b K=fnV (((WL [(280,q3m q3r)]).with 267 (q5z X)).pl z3y) 4 267 ([.el C.ex,.el C.ex]:LP) ([.v]:LP) ([.el C.ex,.el C.ex]:LV) ([.bool]:LV) ([.same,.same]:LV) (a,b,()) (fun r _=>K r.1):=by kernel_rfl
theorem j5s:MT 267 (q5z Hf):=by
 show MT _ (conV ([.el C.ex,.el C.ex]:LP) ([.el C.ex,.el C.ex]:LV) ([.bool]:LV) ([.same,.same]:LV) fun a K=>Hf a.1 a.2.1 (fun q0=>K (q0,()) ((),(),())))
 refine mR (l:=[(280,q3m Hp)]) (u:=4) (rk:=[.v]) (p:=z3y) ⟨j3y,trivial⟩ (by kernel_rfl) fun a K h X hX=> ?_
 exact h (fun a b K=>X (a,b,()) fun r _=>K r.1) (fun a b K hs=>hX (a,b,()) (fun r _=>K r.1) (Eq.mp (j06 Hp (fun a b K=>X (a,b,()) fun r _=>K r.1) a b K) hs))
def q39(X:Jp):Con Sg:=conV [.own 95 C.ex,.el C.ex] [.vec 95 C.ex,.el C.ex] [.vec 95 C.ex] [.same,.same] fun a K=>X a.1 a.2.1 (fun q0=>K (q0,()) ((),(),()))
def q7f:PT:=Qw ([(6,⟨[1,3,4],[1],[],[(.slot 0,.own 95 C.ex)]⟩),(9,⟨bl 234881050,[1],[],[(.slot 0,.own 95 C.ex),sI 28]⟩),(180000005,⟨bl 195,[0],[],[sI 8]⟩)]:LS)
theorem z4g(Jl:U1)(q29:Ul)(X:Jp)(l:List (Ex))(e:Ex)(K:List (Ex)->Prop):q3y Jl q29 X l e K=fnV (((WL [(182,q1n Jl),(267,q5z q29)]).with 248 (q39 X)).pl q7f) 4 248 ([.own 95 C.ex,.el C.ex]:LP) ([.own 95 C.ex]:LP) ([.vec 95 C.ex,.el C.ex]:LV) ([.vec 95 C.ex]:LV) ([.same,.same]:LV) (l,e,()) (fun r _=>K r.1):=by kernel_rfl
theorem z8n:MT 248 (q39 Bu):=by
 show MT _ (conV ([.own 95 C.ex,.el C.ex]:LP) ([.vec 95 C.ex,.el C.ex]:LV) ([.vec 95 C.ex]:LV) ([.same,.same]:LV) fun a K=>Bu a.1 a.2.1 (fun q0=>K (q0,()) ((),(),())))
 refine mR (l:=[(182,q1n Vb),(267,q5z Hf)]) (u:=4) (rk:=[.own 95 C.ex]) (p:=q7f) ⟨z07,j5s,trivial⟩ (by kernel_rfl) fun a K h X hX=> ?_
 exact h (fun l e K=>X (l,e,()) fun r _=>K r.1) (fun l e K hs=>hX (l,e,()) (fun r _=>K r.1) (Eq.mp (z4g Vb Hf (fun l e K=>X (l,e,()) fun r _=>K r.1) l e K) hs))
def q7g(X:W4):Con Sg:=conV [.el C.ex] [.el C.ex] [.el C.ex] [.same] fun a K=>X a.1 (fun q0=>K (q0,()) ((),()))
def z08:PT:=Qw ([(269000007,⟨bl 7955,[],[],[(.slot 5,.own 65 C.val),sI 13]⟩),(248000007,⟨bl 7955,[],[],[(.slot 5,.own 95 C.ex),sI 13]⟩)]:LS)
theorem z8o(Ze:J9)(X:W4)(e:Ex)(K:Ex->Prop):q66 Ze X e K=fnV (((WL [(122,Rr Ze)]).with 249 (q7g X)).pl z08) 4 249 ([.el C.ex]:LP) ([.el C.ex]:LP) ([.el C.ex]:LV) ([.el C.ex]:LV) ([.same]:LV) (e,()) (fun r _=>K r.1):=by kernel_rfl
theorem j3z:MT 249 (q7g q3g):=by
 show MT _ (conV ([.el C.ex]:LP) ([.el C.ex]:LV) ([.el C.ex]:LV) ([.same]:LV) fun a K=>q3g a.1 (fun q0=>K (q0,()) ((),())))
 refine mR (l:=[(122,Rr Wa)]) (u:=4) (rk:=[.el C.ex]) (p:=z08) ⟨q5v,trivial⟩ (by kernel_rfl) fun _ K h X hX=> ?_
 exact h (fun e K=>X (e,()) fun r _=>K r.1) (fun e K hs=>hX (e,()) (fun r _=>K r.1) (Eq.mp (z8o Wa (fun e K=>X (e,()) fun r _=>K r.1) e K) hs))
end Go.En
end
noncomputable section
set_option maxRecDepth 100000
open Go Go.RowKit Go.Fl Go.Fl.Lk Go.Fx
namespace Go.En
def q4a(X:Gm):Con Sg:=conS [.el C.ex] [.vec 95 C.ex] fun a K=>X a.1 (fun q0=>K (q0,()))
theorem z8p{B1:Jp}{q3s:W4}(h:AL [(248,q39 B1),(249,q7g q3s)]):MT 225 (q4a (q3z B1 q3s)):=mS h [(248000007,⟨bl 7955,[1],[],[(.slot 5,.own 95 C.ex),sI 13]⟩)]
theorem z8q:MT 225 (q4a q30):=z8p ⟨z8n,j3z,trivial⟩
def Jk(X:Q9):Con Sg:=conV [.own 9 C.str] [.vec 9 C.str] [] [.vec 9 C.str] fun a K=>X a.1 (fun q0=>K () (q0,()))
theorem Ud:MT 93 (Jk Zv):=⟨entB (by kernel_rfl),q1m⟩
def Wy(X:Z3):Con Sg:=conV [.own 9 C.str] [.vec 9 C.str] [.vec 9 C.str] [.same] fun a K=>X a.1 (fun q0=>K (q0,()) ((),()))
theorem Bn:MT 94 (Wy Z4):=⟨entB (by kernel_rfl),Bk⟩
def q0t(X:Vu):Con Sg:=conS [.el C.ex] [.sl C.str] fun a K=>X a.1 (fun q0=>K (q0,()))
theorem z4h{B2:Gm}{Ql:Q9}{Zk:Z3}(h:AL [(225,q4a B2),(93,Jk Ql),(94,Wy Zk)]):MT 190 (q0t (q0l B2 Ql Zk)):=mS h [(7,⟨bl 455,[1,0],[],[(.slot 3,.own 9 C.str),sI 9]⟩)]
theorem z4i:MT 190 (q0t Gz):=z4h ⟨z8q,Ud,Bn,trivial⟩
def z09(X:q5a):Con Sg:=conV [.sl C.str,.sl C.edge] [.sl C.str,.sl C.edge] [.vec 9 C.str,.int .i64] [.same,.same] fun a K=>X a.1 a.2.1 (fun q0 q1=>K (q0,q1,()) ((),(),()))
theorem j07:MT 191 (z09 P_graph_Order):=⟨entB (by kernel_rfl),j00⟩
def q2z(X:Um):Con Sg:=conS [.sl C.seg] [.vec 9 C.str,.int .i64] fun a K=>X a.1 (fun q0 q1=>K (q0,q1,()))
theorem z61{G9:Vu}{q1u:q5a}(h:AL [(190,q0t G9),(191,z09 q1u)]):MT 144 (q2z (q2i G9 q1u)):=mS h [(9,⟨bl 3085,[],[],[(.slot 4,.own 9 C.str),(.slot 5,.own 297 C.edge),sI 12]⟩),(17,⟨bl 33488029,[6,5,3],[],[(.slot 5,.own 297 C.edge),sI 25]⟩)]
theorem z62:MT 144 (q2z H3):=z61 ⟨z4i,j07,trivial⟩
def q0u(X:Vv):Con Sg:=conS [.el C.subj,.str,.str] [.el C.val,.bool] fun a K=>X a.1 a.2.1 a.2.2.1 (fun q0 q1=>K (q0,q1,()))
theorem z4j{Zy:Wt}{Ze:J9}(h:AL [(99,q2w Zy),(122,Rr Ze)]):MT 181 (q0u (q0m Zy Ze)):=mS h [(17,⟨bl 1912468303,[2,0],[(1,(65,4))],[sI 31,(.cell 1 0,.int .i64),(.cell 1 1,.int .i64),(.cell 1 2,.str),(.cell 1 3,.sl C.str)]⟩)]
theorem z4k:MT 181 (q0u G0):=z4j ⟨q7c,q5v,trivial⟩
def q50(X:H4):Con Sg:=conS [.el C.val,.el C.val] [.bool] fun a K=>X a.1 a.2.1 (fun q0=>K (q0,()))
theorem j08{Qk:Qx}(h:AL [(216,Jh Qk)]):MT 185 (q50 (q5b Qk)):=mS h []
theorem j09:MT 185 (q50 H5):=j08 ⟨V0,trivial⟩
def Vk(X:Zj):Con Sg:=conS [.str,.str] [.bool] fun a K=>X a.1 a.2.1 (fun q0=>K (q0,()))
theorem Rt:MT 217 (Vk Zw):=mS (l:=[]) trivial []
def Hk(X:Js):Con Sg:=conS [.str,.str] [.bool] fun a K=>X a.1 a.2.1 (fun q0=>K (q0,()))
theorem q90{Qu:Zj}(h:AL [(217,Vk Qu)]):MT 186 (Hk (Hg Qu)):=mS h []
theorem q91:MT 186 (Hk Vc):=q90 ⟨Rt,trivial⟩
def Ru(X:Jj):Con Sg:=conS [.str,.str] [.bool] fun a K=>X a.1 a.2.1 (fun q0=>K (q0,()))
theorem q51:MT 218 (Ru Vd):=mS (l:=[]) trivial []
def Hl(X:Jt):Con Sg:=conS [.str,.str] [.bool] fun a K=>X a.1 a.2.1 (fun q0=>K (q0,()))
theorem q92{Jm:Jj}(h:AL [(218,Ru Jm)]):MT 187 (Hl (Hh Jm)):=mS h []
theorem q93:MT 187 (Hl Ve):=q92 ⟨q51,trivial⟩
end Go.En
end
noncomputable section
set_option maxRecDepth 100000
open Go Go.RowKit Go.Fl Go.Fl.Lk Go.Fx
namespace Go.En
def q3n(X:H6):Con Sg:=conV [.v,.v] [.str,.str] [.bool] [.same,.same] fun a K=>X a.1 a.2.1 (fun q0=>K (q0,()) ((),(),()))
theorem z1a:MT 188 (q3n H7):=⟨entB (by kernel_rfl),z03⟩
def z1b(X:q09):Con Sg:=conS [.el C.val] [.bool] fun a K=>X a.1 (fun q0=>K (q0,()))
theorem j1a:MT 242 (z1b q1a):=mS (l:=[]) trivial [(8,⟨bl 31,[0],[],[sB 5]⟩),(14,⟨bl 63,[0],[],[sB 17]⟩)]
def q3o(X:Ua):Con Sg:=conV [.v] [.str] [.bool] [.same] fun a K=>X a.1 (fun q0=>K (q0,()) ((),()))
theorem z1c:MT 262 (q3o Wc):=⟨entB (by kernel_rfl),z02⟩
def q7h(X:q0c):Con Sg:=conS [.str] [.bool] fun a K=>X a.1 (fun q0=>K (q0,()))
theorem j30{Jd:Ua}(h:AL [(262,q3o Jd)]):MT 243 (q7h (q67 Jd)):=mS h [(9,⟨bl 32737,[],[],[(.obj 0,.siter)]⟩)]
theorem j31:MT 243 (q7h q3h):=j30 ⟨z1c,trivial⟩
def q7i(X:q2j):Con Sg:=conV [.v,.v] [.str,.str] [.vec 9 C.str] [.same,.same] fun a K=>X a.1 a.2.1 (fun q0=>K (q0,()) ((),(),()))
theorem z63:MT 245 (q7i q2k):=⟨entB (by kernel_rfl),z6w⟩
def Vl(X:Zx):Con Sg:=conS [.str,.str] [.str,.bool] fun a K=>X a.1 a.2.1 (fun q0 q1=>K (q0,q1,()))
theorem q52{Qu:Zj}(h:AL [(217,Vk Qu)]):MT 276 (Vl (Vf Qu)):=mS h []
theorem q53:MT 276 (Vl Vg):=q52 ⟨Rt,trivial⟩
def Hm(X:Ju):Con Sg:=conS [.str,.str] [.str,.bool] fun a K=>X a.1 a.2.1 (fun q0 q1=>K (q0,q1,()))
theorem q94{Jn:Zx}(h:AL [(276,Vl Jn)]):MT 264 (Hm (Hi Jn)):=mS h []
theorem q95:MT 264 (Hm Vh):=q94 ⟨q53,trivial⟩
def q89(X:q31):Con Sg:=conV [.v] [.str] [.int .i64,.ifc] [.same] fun a K=>X a.1 (fun q0 q1=>K (q0,q1,()) ((),()))
theorem z8r:MT 265 (q89 Bv):=⟨entB (by kernel_rfl),z8k⟩
def Rv(X:Wd):Con Sg:=conS [.str] [.int .i64,.int .i64] fun a K=>X a.1 (fun q0 q1=>K (q0,q1,()))
theorem z1d{Vn:Ju}{Gw:q31}(h:AL [(264,Hm Vn),(265,q89 Gw)]):MT 246 (Rv (H8 Vn Gw)):=mS h [(11,⟨bl 4294966321,[],[],[(.obj 0,.siter)]⟩)]
theorem z1e:MT 246 (Rv Ub):=z1d ⟨q95,z8r,trivial⟩
def q1o(X:Vi):Con Sg:=conS [.str] [.el C.a3,.bool] fun a K=>X a.1 (fun q0 q1=>K (q0,q1,()))
theorem j1b{R3:q2j}{Ue:Wd}(h:AL [(245,q7i R3),(246,Rv Ue)]):MT 223 (q1o (q5c R3 Ue)):=mS h [(13,⟨bl 228405,[2],[(1,(325,3)),(0,(325,3))],[sI 18,(.cell 1 0,.int .i64),(.cell 1 1,.int .i64),(.cell 1 2,.int .i64),(.cell 0 0,.int .i64),(.cell 0 1,.int .i64),(.cell 0 2,.int .i64)]⟩)]
theorem z1f:MT 223 (q1o H9):=j1b ⟨z63,z1e,trivial⟩
def q54(X:Ra):Con Sg:=conS [.el C.val] [.int .i64] fun a K=>X a.1 (fun q0=>K (q0,()))
theorem j1c{q1v:q09}{q0f:q0c}{Z8:Vi}(h:AL [(242,z1b q1v),(243,q7h q0f),(223,q1o Z8)]):MT 220 (q54 (q5d q1v q0f Z8)):=mS h [(47,⟨bl 73643289922748022531,[0],[],[sI 66]⟩),(59,⟨bl 132521265739157328625411,[0],[],[sI 77]⟩)]
theorem j1d:MT 220 (q54 q1b):=j1c ⟨j1a,j31,z1f,trivial⟩
def q20(X:Un):Con Sg:=conS [.el C.val,.el C.val] [.int .i64,.int .i64] fun a K=>X a.1 a.2.1 (fun q0 q1=>K (q0,q1,()))
theorem z64{R4:Ra}{Z8:Vi}(h:AL [(220,q54 R4),(223,q1o Z8)]):MT 189 (q20 (q2l R4 Z8)):=mS h [(225000005,⟨bl 1539,[],[],[sI 11]⟩)]
theorem z65:MT 189 (q20 Uo):=z64 ⟨j1d,z1f,trivial⟩
end Go.En
end
