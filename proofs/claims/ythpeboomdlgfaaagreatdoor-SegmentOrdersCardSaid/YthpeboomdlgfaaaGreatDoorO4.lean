/- SegmentOrders: for every input the law returns true and leaves its arguments as they were. This is part 4 of 7. Conditions: those in the statements. -/
import Derived.Test.YthpeboomdlgfaaaGreatDoorProg
import Derived.Test.YthpeboomdlgfaaaGreatDoorO3
import Derived.Lib.ValidU
import Derived.KernelRfl
import Derived.Conc.MuLone
import Derived.Shelf.Small.Bits
import Derived.Shelf.Utf8.RuneCount
import Derived.Shelf.Strconv.Atoi
import Derived.Shelf.Strconv.Itoa0
import Derived.Shelf.Strconv.Itoa1
import Derived.Shelf.LaysM
import Derived.Shelf.Strconv.AtoiErrFast
import Derived.Shelf.Strconv.ParseIntEmpty
import Derived.Shelf.Strconv.AtoiFail
import Derived.Shelf.Strconv.Clone
import Derived.Shelf.Strconv.SyntaxError
import Derived.Shelf.LaysC
import Derived.Shelf.Strconv.ToError
import Derived.Shelf.Strconv.Lower
import Derived.Shelf.Strconv.ParseUint10
import Derived.Shelf.Strconv.ParseUint10Empty
import Derived.Shelf.Strconv.ParseUint10Any
import Derived.Shelf.Strconv.ParseInt10
import Derived.Shelf.Strconv.AtoiLong
import Derived.Shelf.Strconv.AtoiInnerAll
import Derived.Shelf.Strconv.RangeError
import Derived.Shelf.Strconv.ToErrorRange
import Derived.Shelf.Strconv.AtoiAll
import Derived.Shelf.Strconv.ErrVarAll
import Derived.Shelf.Strings.Search1
import Derived.Shelf.Strings.Search2
import Derived.Shelf.Strings.Search3
import Derived.Shelf.Strings.Count
import Derived.Shelf.Strings.Shaped
import Derived.Shelf.Sort.Plain
import Derived.Shelf.Strings.Split
import Derived.Shelf.Unicode.DecodeSlow
import Derived.Shelf.Unicode.DecodeAny
import Derived.Ground.Names2Prog
import Derived.Shelf.Slices.Clone
import Derived.Shelf.Slices.CompactS
import Derived.Shelf.Slices.SearchI
import Derived.Shelf.Slices.Delete
import Derived.Shelf.Slices.Cells
import Derived.Shelf.Slices.In.SortNone
import Derived.Shelf.Slices.Empties
import Derived.Ground.SlgnProg
import Derived.Shelf.SlicesE.Clone
import Derived.Ground.NamesProg
import Derived.Shelf.Unicode.ValidAny
import Derived.Shelf.SlIter.Sorted
import Derived.Ground.GgzProg
import Derived.Shelf.SlIter.Collect
import Derived.WalkKit
import Derived.OwnWalkIn
import Derived.TacticsInMore
import Derived.LoopNIn
import Derived.LoopIn
import Derived.RangeFuncLeaves
noncomputable section
set_option maxRecDepth 100000
open Go Go.RowKit Go.Fl Go.Fl.Lk Go.Fx
namespace Go.En
abbrev q1x:Type:=(List (Decl)→Prop)→Prop
def q09 (K:List (Decl)→Prop):Prop:=K [Decl.mk (ByteArray.mk (Array.mk [100,101,118,105,99,101])) (ByteArray.mk (Array.mk [99,111,114,101,115])) (2:Int),Decl.mk (ByteArray.mk (Array.mk [100,101,118,105,99,101])) (ByteArray.mk (Array.mk [111,115])) (3:Int),Decl.mk (ByteArray.mk (Array.mk [117,115,101,114])) (ByteArray.mk (Array.mk [97,103,101])) (2:Int),Decl.mk (ByteArray.mk (Array.mk [117,115,101,114])) (ByteArray.mk (Array.mk [97,112,112])) (4:Int),Decl.mk (ByteArray.mk (Array.mk [117,115,101,114])) (ByteArray.mk (Array.mk [98,101,116,97])) (1:Int),Decl.mk (ByteArray.mk (Array.mk [117,115,101,114])) (ByteArray.mk (Array.mk [99,111,117,110,116,114,121])) (3:Int),Decl.mk (ByteArray.mk (Array.mk [117,115,101,114])) (ByteArray.mk (Array.mk [112,108,97,110])) (3:Int),Decl.mk (ByteArray.mk (Array.mk [117,115,101,114])) (ByteArray.mk (Array.mk [116,97,103,115])) (5:Int)]
abbrev w2l:Type:=List (Int)→Int→(Bool→Int→Prop)→Prop
def j0e (list:List (Int)) (at_:Int) (K:Bool→Int→Prop):Prop:=list.length≤(9223372036854775807:Nat)→K (decide (at_<(↑list.length:Int))) at_
abbrev q0r:Type:=List (Int)→Int→Int→(Int→Int→Prop)→Prop
def v1r (X_d_Left:w2l) (list:List (Int)) (at_:Int) (n:Int) (K:Int→Int→Prop):Prop:=X_d_Left list at_ fun x0_0 x0_1=>Cnd (x0_0=true) (InI (x0_1+(1:Int))∧InI (x0_1+(1:Int) - (1:Int))∧((0:Int)≤x0_1+(1:Int) - (1:Int)∧x0_1+(1:Int) - (1:Int)<(↑list.length:Int))∧ ∀y1,list[(x0_1+(1:Int) - (1:Int)).toNat]? =some y1→InI y1∧n≠(0:Int)∧K (y1.tmod n) (x0_1+(1:Int))) (K (0:Int) x0_1)
def q0o (list:List (Int)) (at_:Int) (n:Int) (K:Int→Int→Prop):Prop:=v1r j0e list at_ n K
abbrev q50:Type:=List (Int)→Int→(ByteArray→Int→Prop)→Prop
def v1s (X_d_Next:q0r) (list:List (Int)) (at_:Int) (K:ByteArray→Int→Prop):Prop:=X_d_Next list at_ (11:Int) fun x0_0 x0_1=>((0:Int)≤x0_0∧x0_0<(↑(11:Nat):Int))∧ ∀y1,j9b[x0_0.toNat]? =some y1→K y1 x0_1
def q4b (list:List (Int)) (at_:Int) (K:ByteArray→Int→Prop):Prop:=v1s q0o list at_ K
abbrev q9t:Type:=List (Int)→Int→Int→(Int→Int→Prop)→Prop
def v1t (X_d_Next:q0r) (list:List (Int)) (at_:Int) (n:Int) (K:Int→Int→Prop):Prop:=X_d_Next list at_ (256:Int) fun x0_0 x0_1=>InI ((256:Int)*x0_0)∧X_d_Next list x0_1 (256:Int) fun x1_0 x1_1=>InI ((256:Int)*x0_0+x1_0)∧n≠(0:Int)∧K (((256:Int)*x0_0+x1_0).tmod n) x1_1
def q6r (list:List (Int)) (at_:Int) (n:Int) (K:Int→Int→Prop):Prop:=v1t q0o list at_ n K
abbrev z5g:Type:=Int→List (ByteArray)→(List (ByteArray)→Prop)→Prop
def z0u (n:Int) (l:List (ByteArray)) (K:List (ByteArray)→Prop):Prop:=((0:Int)≤n∧n≤(↑l.length:Int))∧K (List.take n.toNat l)
abbrev z5h:Type:=List (Int)→Int→(List (ByteArray)→Int→Prop)→Prop
def v1u (X_d_Next:q0r) (list:List (Int)) (at_:Int) (K:List (ByteArray)→Int→Prop):Prop:=X_d_Next list at_ (10:Int) fun x0_0 x0_1=>Lp3 (fun x1_0 x1_1 x1_2 Y1_3=>X_d_Next list x1_2 (4:Int) fun x2_0 x2_1=>Cnd (x1_1<x2_0) (InI (x0_0+x1_1)∧(10:Int)≠(0:Int)∧InI ((48:Int)+(x0_0+x1_1).tmod (10:Int))∧(↑((ByteArray.mk (Array.mk [107])).size+(Go.Utf8.encode (Go.IntKind.i32.wrap ((48:Int)+(x0_0+x1_1).tmod (10:Int)))).size):Int)≤(9223372036854775807:Int)∧Sml (x1_0++[ByteArray.mk (Array.mk [107])++Go.Utf8.encode (Go.IntKind.i32.wrap ((48:Int)+(x0_0+x1_1).tmod (10:Int)))]).length∧InI (x1_1+(1:Int))∧Y1_3 (x1_0++[ByteArray.mk (Array.mk [107])++Go.Utf8.encode (Go.IntKind.i32.wrap ((48:Int)+(x0_0+x1_1).tmod (10:Int)))]) (x1_1+(1:Int)) x2_1) (Lp2 (fun x3_0 x3_1 Y3_2=>x3_1.length≤(9223372036854775807:Nat)→Cnd (x3_0<(↑x3_1.length:Int)) (((0:Int)≤x3_0∧x3_0<(↑x3_1.length:Int))∧ ∀y5,x3_1[x3_0.toNat]? =some y5→InI (x3_0 - (1:Int))∧((0:Int)≤x3_0 - (1:Int)∧x3_0 - (1:Int)<(↑x3_1.length:Int))∧ ∀y7,x3_1[(x3_0 - (1:Int)).toNat]? =some y7→Cnd (Lk.blt y7 y5) (InI (x3_0+(1:Int))∧Y3_2 (x3_0+(1:Int)) x3_1) (((0:Int)≤x3_0∧x3_0≤(↑x3_1.length:Int))∧K (List.take x3_0.toNat x3_1) x2_1)) (K x3_1 x2_1)) (1:Int) x1_0)) [] (0:Int) x0_1
def z0v (list:List (Int)) (at_:Int) (K:List (ByteArray)→Int→Prop):Prop:=v1u q0o list at_ K
abbrev j2p:Type:=List (Int)→Int→(ByteArray→Int→Prop)→Prop
def v91 (X_d_Next:q0r) (list:List (Int)) (at_:Int) (K:ByteArray→Int→Prop):Prop:=X_d_Next list at_ (10:Int) fun x0_0 x0_1=>InI ((48:Int)+x0_0)∧(↑((ByteArray.mk (Array.mk [107])).size+(Go.Utf8.encode (Go.IntKind.i32.wrap ((48:Int)+x0_0))).size):Int)≤(9223372036854775807:Int)∧K (ByteArray.mk (Array.mk [107])++Go.Utf8.encode (Go.IntKind.i32.wrap ((48:Int)+x0_0))) x0_1
def z5i (list:List (Int)) (at_:Int) (K:ByteArray→Int→Prop):Prop:=v91 q0o list at_ K
abbrev q6m:Type:=List (Int)→Int→Int→(Val→Int→Prop)→Prop
def w33 (X_d_Next:q0r) (X_d_Text:q50) (list:List (Int)) (at_:Int) (kind:Int) (K:Val→Int→Prop):Prop:=Cnd (kind=(1:Int)) (X_d_Next list at_ (2:Int) fun x0_0 x0_1=>K (Val.mk kind x0_0 (ByteArray.mk (Array.mk [])) []) x0_1) (Cnd (kind=(2:Int)) ([(0:Int),(1:Int),(17:Int),(18:Int),(19:Int),(-5:Int),(64:Int),(1099511627776:Int),(-1099511627776:Int)].length≤(9223372036854775807:Nat)→X_d_Next list at_ (↑[(0:Int),(1:Int),(17:Int),(18:Int),(19:Int),(-5:Int),(64:Int),(1099511627776:Int),(-1099511627776:Int)].length:Int) fun x1_0 x1_1=>((0:Int)≤x1_0∧x1_0<(↑[(0:Int),(1:Int),(17:Int),(18:Int),(19:Int),(-5:Int),(64:Int),(1099511627776:Int),(-1099511627776:Int)].length:Int))∧ ∀y2,[(0:Int),(1:Int),(17:Int),(18:Int),(19:Int),(-5:Int),(64:Int),(1099511627776:Int),(-1099511627776:Int)][x1_0.toNat]? =some y2→K (Val.mk kind y2 (ByteArray.mk (Array.mk [])) []) x1_1) (Cnd (kind=(3:Int)) (X_d_Text list at_ fun x0_0 x0_1=>K (Val.mk kind (0:Int) x0_0 []) x0_1) (Cnd (kind=(4:Int)) (X_d_Next list at_ (6:Int) fun x0_0 x0_1=>((0:Int)≤x0_0∧x0_0<(↑(6:Nat):Int))∧ ∀y1,j4g[x0_0.toNat]? =some y1→K (Val.mk kind (0:Int) y1 []) x0_1) (X_d_Next list at_ (5:Int) fun x0_0 x0_1=>((0:Int)≤x0_0∧x0_0<(↑(5:Nat):Int))∧ ∀y1,w9o[x0_0.toNat]? =some y1→Sml ([]++y1).length∧K (Val.mk (5:Int) (0:Int) (ByteArray.mk (Array.mk [])) ([]++y1)) x0_1))))
def q3f (list:List (Int)) (at_:Int) (kind:Int) (K:Val→Int→Prop):Prop:=w33 q0o q4b list at_ kind K
abbrev w2m:Type:=List (Int)→Int→(Ex→Int→Prop)→Prop
def v1v (X_d_Declared:q1x) (X_d_Next:q0r) (X_d_Key:j2p) (X_d_Value:q6m) (list:List (Int)) (at_:Int) (K:Ex→Int→Prop):Prop:=X_d_Declared fun x0_0=>x0_0.length≤(9223372036854775807:Nat)→InI ((↑x0_0.length:Int)+(1:Int))∧X_d_Next list at_ ((↑x0_0.length:Int)+(1:Int)) fun x2_0 x2_1=>x0_0.length≤(9223372036854775807:Nat)→Cnd (x2_0=(↑x0_0.length:Int)) (X_d_Key list x2_1 fun x4_0 x4_1=>K (Ex.mk (7:Int) (ByteArray.mk (Array.mk [117,115,101,114])) (ByteArray.mk (Array.mk [107,101,121])) [Val.mk (3:Int) (0:Int) x4_0 []] []) x4_1) (((0:Int)≤x2_0∧x2_0<(↑x0_0.length:Int))∧ ∀y4,x0_0[x2_0.toNat]? =some y4→Jn1 (fun (x6_0:Int×ByteArray×ByteArray×List Val×List Ex×Int×Int×ByteArray×ByteArray×List Val×List Ex×Unit)=>X_d_Value list x6_0.snd.snd.snd.snd.snd.fst y4.3 fun x7_0 x7_1=>K (Ex.mk (7:Int) x6_0.snd.fst x6_0.snd.snd.fst [x7_0] x6_0.snd.snd.snd.snd.fst) x7_1) fun (Y6_0:Int×ByteArray×ByteArray×List Val×List Ex×Int×Int×ByteArray×ByteArray×List Val×List Ex×Unit→Prop)=>X_d_Next list x2_1 (5:Int) fun x7_0 x7_1=>Jn1 (fun (x8_0:Int×Int×ByteArray×ByteArray×List Val×List Ex×Int×ByteArray×ByteArray×List Val×List Ex×Unit)=>Cnd (y4.3=(2:Int)) (X_d_Next list x8_0.fst (4:Int) fun x9_0 x9_1=>InI ((12:Int)+x9_0)∧X_d_Value list x9_1 y4.3 fun x10_0 x10_1=>K (Ex.mk ((12:Int)+x9_0) x8_0.snd.snd.fst x8_0.snd.snd.snd.fst [x10_0] x8_0.snd.snd.snd.snd.snd.fst) x10_1) (Cnd (y4.3=(3:Int)) (X_d_Next list x8_0.fst (4:Int) fun x9_0 x9_1=>InI ((12:Int)+x9_0)∧X_d_Value list x9_1 y4.3 fun x10_0 x10_1=>K (Ex.mk ((12:Int)+x9_0) x8_0.snd.snd.fst x8_0.snd.snd.snd.fst [x10_0] x8_0.snd.snd.snd.snd.snd.fst) x10_1) (Cnd (y4.3=(4:Int)) (X_d_Next list x8_0.fst (4:Int) fun x9_0 x9_1=>InI ((12:Int)+x9_0)∧X_d_Value list x9_1 y4.3 fun x10_0 x10_1=>K (Ex.mk ((12:Int)+x9_0) x8_0.snd.snd.fst x8_0.snd.snd.snd.fst [x10_0] x8_0.snd.snd.snd.snd.snd.fst) x10_1) (Y6_0 (x8_0.snd.fst,x8_0.snd.snd.fst,x8_0.snd.snd.snd.fst,x8_0.snd.snd.snd.snd.fst,x8_0.snd.snd.snd.snd.snd.fst,x8_0.fst,x8_0.snd.snd.snd.snd.snd.snd.fst,x8_0.snd.snd.snd.snd.snd.snd.snd.fst,x8_0.snd.snd.snd.snd.snd.snd.snd.snd.fst,x8_0.snd.snd.snd.snd.snd.snd.snd.snd.snd.fst,x8_0.snd.snd.snd.snd.snd.snd.snd.snd.snd.snd.fst,()))))) fun (Y8_0:Int×Int×ByteArray×ByteArray×List Val×List Ex×Int×ByteArray×ByteArray×List Val×List Ex×Unit→Prop)=>Cnd (x7_0=(0:Int)) (K (Ex.mk (6:Int) y4.1 y4.2 [] []) x7_1) (Cnd (x7_0=(1:Int)) (Cnd (y4.3=(5:Int)) (Y6_0 ((0:Int),y4.1,y4.2,[],[],x7_1,(0:Int),ByteArray.mk (Array.mk []),ByteArray.mk (Array.mk []),[],[],())) (Lp3 (fun x9_0 x9_1 x9_2 Y9_3=>X_d_Next list x9_2 (3:Int) fun x10_0 x10_1=>Cnd (x9_0≤x10_0) (X_d_Value list x10_1 y4.3 fun x11_0 x11_1=>Sml (x9_1++[x11_0]).length∧InI (x9_0+(1:Int))∧Y9_3 (x9_0+(1:Int)) (x9_1++[x11_0]) x11_1) (K (Ex.mk (8:Int) y4.1 y4.2 x9_1 []) x10_1)) (0:Int) [] x7_1)) (Cnd (x7_0=(2:Int)) (Cnd (y4.3=(3:Int)) (X_d_Value list x7_1 (3:Int) fun x9_0 x9_1=>K (Ex.mk (11:Int) y4.1 y4.2 [x9_0] []) x9_1) (Cnd (y4.3=(5:Int)) (X_d_Value list x7_1 (3:Int) fun x9_0 x9_1=>K (Ex.mk (11:Int) y4.1 y4.2 [x9_0] []) x9_1) (Y6_0 ((0:Int),y4.1,y4.2,[],[],x7_1,(0:Int),ByteArray.mk (Array.mk []),ByteArray.mk (Array.mk []),[],[],())))) (Cnd (x7_0=(3:Int)) (Cnd (y4.3=(3:Int)) (X_d_Next list x7_1 (2:Int) fun x9_0 x9_1=>InI ((9:Int)+x9_0)∧X_d_Value list x9_1 (3:Int) fun x10_0 x10_1=>K (Ex.mk ((9:Int)+x9_0) y4.1 y4.2 [x10_0] []) x10_1) (Y8_0 (x7_1,(0:Int),y4.1,y4.2,[],[],(0:Int),ByteArray.mk (Array.mk []),ByteArray.mk (Array.mk []),[],[],()))) (Cnd (x7_0=(4:Int)) (Y8_0 (x7_1,(0:Int),y4.1,y4.2,[],[],(0:Int),ByteArray.mk (Array.mk []),ByteArray.mk (Array.mk []),[],[],())) (Y6_0 ((0:Int),y4.1,y4.2,[],[],x7_1,(0:Int),ByteArray.mk (Array.mk []),ByteArray.mk (Array.mk []),[],[],())))))))
def j0f (list:List (Int)) (at_:Int) (K:Ex→Int→Prop):Prop:=v1v q09 q0o z5i q3f list at_ K
abbrev q51:Type:=List (Int)→Int→List (ByteArray)→Int→(Ex→Int→Prop)→Prop
def j0g (X_d_Next:q0r) (X_d_Test:w2m) (X:q51) (list:List (Int)) (at_:Int) (segments:List (ByteArray)) (levels:Int) (K:Ex→Int→Prop):Prop:=X_d_Next list at_ (8:Int) fun x0_0 x0_1=>Jn1 (fun x1_0=>Cnd (x1_0=(0:Int)) (K (Ex.mk (1:Int) (ByteArray.mk (Array.mk [])) (ByteArray.mk (Array.mk [])) [] []) x0_1) (Cnd (x1_0=(3:Int)) (segments.length≤(9223372036854775807:Nat)→Cnd ((0:Int)<(↑segments.length:Int)) (segments.length≤(9223372036854775807:Nat)→X_d_Next list x0_1 (↑segments.length:Int) fun x4_0 x4_1=>((0:Int)≤x4_0∧x4_0<(↑segments.length:Int))∧ ∀y5,segments[x4_0.toNat]? =some y5→K (Ex.mk (5:Int) (ByteArray.mk (Array.mk [])) y5 [] []) x4_1) (X_d_Test list x0_1 fun x3_0 x3_1=>K (Ex.mk x3_0.1 x3_0.2 x3_0.3 x3_0.4 x3_0.5) x3_1)) (Cnd (x1_0=(4:Int)) (InI (levels - (1:Int))∧X list x0_1 segments (levels - (1:Int)) fun x2_0 x2_1=>K (Ex.mk (4:Int) (ByteArray.mk (Array.mk [])) (ByteArray.mk (Array.mk [])) [] [Ex.mk x2_0.1 x2_0.2 x2_0.3 x2_0.4 x2_0.5]) x2_1) (Jn1 (fun x2_0=>Cnd (x2_0=true) (X_d_Next list x0_1 (2:Int) fun x3_0 x3_1=>InI ((2:Int)+x3_0)∧X_d_Next list x3_1 (2:Int) fun x4_0 x4_1=>InI ((2:Int)+x4_0)∧LpH (fun (x5_0:Int×Int×Int×ByteArray×ByteArray×List Val×List Ex×Unit) (Y5_1:Int×Int×Int×ByteArray×ByteArray×List Val×List Ex×Unit→Prop)=>Cnd (x5_0.fst<(2:Int)+x4_0) (InI (levels - (1:Int))∧X list x5_0.snd.fst segments (levels - (1:Int)) fun x6_0 x6_1=>Jn1 (fun (x7_0:Int×ByteArray×ByteArray×List Val×List Ex×Unit)=>Sml (x5_0.snd.snd.snd.snd.snd.snd.fst++[Ex.mk x7_0.fst x7_0.snd.fst x7_0.snd.snd.fst x7_0.snd.snd.snd.fst x7_0.snd.snd.snd.snd.fst]).length∧InI (x5_0.fst+(1:Int))∧Y5_1 (x5_0.fst+(1:Int),x6_1,x5_0.snd.snd.fst,x5_0.snd.snd.snd.fst,x5_0.snd.snd.snd.snd.fst,x5_0.snd.snd.snd.snd.snd.fst,x5_0.snd.snd.snd.snd.snd.snd.fst++[Ex.mk x7_0.fst x7_0.snd.fst x7_0.snd.snd.fst x7_0.snd.snd.snd.fst x7_0.snd.snd.snd.snd.fst],())) fun (Y7_0:Int×ByteArray×ByteArray×List Val×List Ex×Unit→Prop)=>Cnd (x6_0.1=(2:Int)+x3_0) (Y7_0 ((4:Int),ByteArray.mk (Array.mk []),ByteArray.mk (Array.mk []),[],[Ex.mk x6_0.1 x6_0.2 x6_0.3 x6_0.4 x6_0.5],())) (Y7_0 (x6_0.1,x6_0.2,x6_0.3,x6_0.4,x6_0.5,()))) (K (Ex.mk x5_0.snd.snd.fst x5_0.snd.snd.snd.fst x5_0.snd.snd.snd.snd.fst x5_0.snd.snd.snd.snd.snd.fst x5_0.snd.snd.snd.snd.snd.snd.fst) x5_0.snd.fst)) ((0:Int),x4_1,(2:Int)+x3_0,ByteArray.mk (Array.mk []),ByteArray.mk (Array.mk []),[],[],())) (X_d_Test list x0_1 fun x3_0 x3_1=>K (Ex.mk x3_0.1 x3_0.2 x3_0.3 x3_0.4 x3_0.5) x3_1)) fun Y2_0=>Cnd (x1_0=(5:Int)) (Y2_0 (decide (x1_0=(5:Int)))) (Y2_0 (decide (x1_0=(6:Int)))))))) fun Y1_0=>Cnd (levels≤(1:Int)) (Cnd ((4:Int)≤x0_0) (InI (x0_0 - (4:Int))∧Y1_0 (x0_0 - (4:Int))) (Y1_0 x0_0)) (Y1_0 x0_0)
def q5a (list:List (Int)) (at_:Int) (segments:List (ByteArray)) (levels:Int) (K:Ex→Int→Prop):Prop:= ∀X:q51,(∀list at_ segments levels K,j0g q0o j0f X list at_ segments levels K→X list at_ segments levels K)→X list at_ segments levels K
abbrev z2t:Type:=List (Int)→Int→ByteArray→ByteArray→Int→List (Decl)→List (Seg)→List (Flg)→List (Lay_)→List (Exper)→(Int→ByteArray→ByteArray→Int→List (Decl)→List (Seg)→List (Flg)→List (Lay_)→List (Exper)→Prop)→Prop
def z7y (X_d_Next:q0r) (X_d_keys:z5g) (X_d_Keys:z5h) (X_d_Expr:q51) (list:List (Int)) (at_:Int) (salt:ByteArray) (hkind:ByteArray) (hold:Int) (attrs:List (Decl)) (segs:List (Seg)) (flags:List (Flg)) (layers:List (Lay_)) (expers:List (Exper)) (K:Int→ByteArray→ByteArray→Int→List (Decl)→List (Seg)→List (Flg)→List (Lay_)→List (Exper)→Prop):Prop:=X_d_Next list at_ (4:Int) fun x0_0 x0_1=>X_d_keys x0_0 [ByteArray.mk (Array.mk [97,108,112,104,97]),ByteArray.mk (Array.mk [98,101,116,97]),ByteArray.mk (Array.mk [103,97,109,109,97])] fun x1_0=>Lp3 (fun x2_0 x2_1 x2_2 Y2_3=>x1_0.length≤(9223372036854775807:Nat)→Cnd (x2_0<(↑x1_0.length:Int)) (((0:Int)≤x2_0∧x2_0<(↑x1_0.length:Int))∧ ∀y4,x1_0[x2_0.toNat]? =some y4→X_d_Keys list x2_1 fun x6_0 x6_1=>X_d_Keys list x6_1 fun x7_0 x7_1=>Jn2 (fun x8_0 x8_1=>Jn1 (fun (x9_0:Int×ByteArray×ByteArray×List Val×List Ex×Int×Unit)=>Sml (x2_2++[Seg.mk y4 x8_0 x6_0 x7_0 (Ex.mk x9_0.fst x9_0.snd.fst x9_0.snd.snd.fst x9_0.snd.snd.snd.fst x9_0.snd.snd.snd.snd.fst)]).length∧InI (x2_0+(1:Int))∧Y2_3 (x2_0+(1:Int)) x9_0.snd.snd.snd.snd.snd.fst (x2_2++[Seg.mk y4 x8_0 x6_0 x7_0 (Ex.mk x9_0.fst x9_0.snd.fst x9_0.snd.snd.fst x9_0.snd.snd.snd.fst x9_0.snd.snd.snd.snd.fst)])) fun (Y9_0:Int×ByteArray×ByteArray×List Val×List Ex×Int×Unit→Prop)=>X_d_Next list x8_1 (3:Int) fun x10_0 x10_1=>Cnd ((0:Int)<x10_0) (((0:Int)≤(0:Int)∧(0:Int)≤x2_0∧x2_0≤(↑x1_0.length:Int))∧X_d_Expr list x10_1 (List.drop (Int.toNat (0:Int)) (List.take x2_0.toNat x1_0)) (3:Int) fun x11_0 x11_1=>Y9_0 (x11_0.1,x11_0.2,x11_0.3,x11_0.4,x11_0.5,x11_1,())) (Y9_0 ((0:Int),ByteArray.mk (Array.mk []),ByteArray.mk (Array.mk []),[],[],x10_1,()))) fun Y8_0=>X_d_Next list x7_1 (4:Int) fun x9_0 x9_1=>Cnd (x9_0=(1:Int)) (Y8_0 (ByteArray.mk (Array.mk [100,101,118,105,99,101])) x9_1) (Y8_0 (ByteArray.mk (Array.mk [117,115,101,114])) x9_1)) (K x2_1 salt hkind hold attrs x2_2 flags layers expers)) (0:Int) x0_1 segs
def q7h (list:List (Int)) (at_:Int) (salt:ByteArray) (hkind:ByteArray) (hold:Int) (attrs:List (Decl)) (segs:List (Seg)) (flags:List (Flg)) (layers:List (Lay_)) (expers:List (Exper)) (K:Int→ByteArray→ByteArray→Int→List (Decl)→List (Seg)→List (Flg)→List (Lay_)→List (Exper)→Prop):Prop:=z7y q0o z0u z0v q5a list at_ salt hkind hold attrs segs flags layers expers K
abbrev q73:Type:=Envt→(List (ByteArray)→Prop)→Prop
def q2y (v:Envt) (K:List (ByteArray)→Prop):Prop:=Lp2 (fun x0_0 x0_1 Y0_2=>v.3.length≤(9223372036854775807:Nat)→Cnd (x0_1<(↑v.3.length:Int)) (((0:Int)≤x0_1∧x0_1<(↑v.3.length:Int))∧ ∀y2,v.3[x0_1.toNat]? =some y2→Sml (x0_0++[y2.1]).length∧InI (x0_1+(1:Int))∧Y0_2 (x0_0++[y2.1]) (x0_1+(1:Int))) (K x0_0)) [] (0:Int)
abbrev z1p:Type:=List (Int)→Int→Int→(List (Rng)→Int→Prop)→Prop
def w34 (X_d_Next:q0r) (X_d_Wide:q9t) (list:List (Int)) (at_:Int) (n:Int) (K:List (Rng)→Int→Prop):Prop:=Jn4 (fun x0_0 x0_1 x0_2 x0_3=>X_d_Next list x0_3 n fun x1_0 x1_1=>InI ((1:Int)+x1_0)∧Jn1 (fun x2_0=>Sml (x0_0++[Rng.mk x0_1 (10000:Int) x2_0]).length∧K (x0_0++[Rng.mk x0_1 (10000:Int) x2_0]) x1_1) fun Y2_0=>Cnd ((1:Int)+x1_0=x0_2) (n≠(0:Int)∧InI ((1:Int)+((1:Int)+x1_0).tmod n)∧Y2_0 ((1:Int)+((1:Int)+x1_0).tmod n)) (Y2_0 ((1:Int)+x1_0))) fun Y0_0=>Lp5 (fun x1_0 x1_1 x1_2 x1_3 x1_4 Y1_5=>X_d_Next list x1_4 (4:Int) fun x2_0 x2_1=>Cnd (x1_3<x2_0) (Cnd ((1:Int)<n) (InI (x1_1+(1:Int))∧X_d_Wide list x2_1 (5000:Int) fun x3_0 x3_1=>InI (x1_1+(1:Int)+x3_0)∧X_d_Next list x3_1 n fun x4_0 x4_1=>InI ((1:Int)+x4_0)∧Jn1 (fun x5_0=>Cnd ((10000:Int)≤x1_1+(1:Int)+x3_0) (Y0_0 x1_0 x1_1 x1_2 x4_1) (Sml (x1_0++[Rng.mk x1_1 (x1_1+(1:Int)+x3_0) x5_0]).length∧InI (x1_3+(1:Int))∧Y1_5 (x1_0++[Rng.mk x1_1 (x1_1+(1:Int)+x3_0) x5_0]) (x1_1+(1:Int)+x3_0) x5_0 (x1_3+(1:Int)) x4_1)) fun Y5_0=>Cnd ((1:Int)+x4_0=x1_2) (n≠(0:Int)∧InI ((1:Int)+((1:Int)+x4_0).tmod n)∧Y5_0 ((1:Int)+((1:Int)+x4_0).tmod n)) (Y5_0 ((1:Int)+x4_0))) (Y0_0 x1_0 x1_1 x1_2 x2_1)) (Y0_0 x1_0 x1_1 x1_2 x2_1)) [] (0:Int) (0:Int) (0:Int) at_
def q74 (list:List (Int)) (at_:Int) (n:Int) (K:List (Rng)→Int→Prop):Prop:=w34 q0o q6r list at_ n K
abbrev j4i:Type:=List (Int)→Int→Int→(Srv→Int→Prop)→Prop
def w35 (X_d_Next:q0r) (X_d_Text:q50) (X_d_Split:z1p) (X_d_Declared:q1x) (list:List (Int)) (at_:Int) (n:Int) (K:Srv→Int→Prop):Prop:=X_d_Next list at_ (2:Int) fun x0_0 x0_1=>Cnd (x0_0=(0:Int)) (X_d_Next list x0_1 n fun x1_0 x1_1=>InI ((1:Int)+x1_0)∧K (Srv.mk ((1:Int)+x1_0) (ByteArray.mk (Array.mk [])) (ByteArray.mk (Array.mk [])) (ByteArray.mk (Array.mk [])) []) x1_1) (X_d_Text list x0_1 fun x1_0 x1_1=>X_d_Split list x1_1 n fun x2_0 x2_1=>X_d_Declared fun x3_0=>X_d_Next list x2_1 (12:Int) fun x4_0 x4_1=>x3_0.length≤(9223372036854775807:Nat)→Cnd (x4_0<(↑x3_0.length:Int)) (((0:Int)≤x4_0∧x4_0<(↑x3_0.length:Int))∧ ∀y6,x3_0[x4_0.toNat]? =some y6→Cnd (y6.3=(5:Int)) (K (Srv.mk (0:Int) (ByteArray.mk (Array.mk [117,115,101,114])) (ByteArray.mk (Array.mk [107,101,121])) x1_0 x2_0) x4_1) (((0:Int)≤x4_0∧x4_0<(↑x3_0.length:Int))∧ ∀y8,x3_0[x4_0.toNat]? =some y8→((0:Int)≤x4_0∧x4_0<(↑x3_0.length:Int))∧ ∀y10,x3_0[x4_0.toNat]? =some y10→K (Srv.mk (0:Int) y8.1 y10.2 x1_0 x2_0) x4_1)) (K (Srv.mk (0:Int) (ByteArray.mk (Array.mk [117,115,101,114])) (ByteArray.mk (Array.mk [107,101,121])) x1_0 x2_0) x4_1))
def z4g (list:List (Int)) (at_:Int) (n:Int) (K:Srv→Int→Prop):Prop:=w35 q0o q4b q74 q09 list at_ n K
abbrev j4j:Type:=(List (Nd)→(Nd→Option (Int))→Bool→Prop)→Prop
def z7z (K:List (Nd)→(Nd→Option (Int))→Bool→Prop):Prop:=K [] (fun _=>none) false
abbrev q11:Type:=Int→(Bool→Prop)→Prop
def q1f (op:Int) (K:Bool→Prop):Prop:=Cnd ((6:Int)≤op) (K (decide (op≤(15:Int)))) (K false)
abbrev z1q:Type:=List (ByteArray)→List (ByteArray)→(Bool→Prop)→Prop
def q6n (a:List (ByteArray)) (b:List (ByteArray)) (K:Bool→Prop):Prop:=a.length≤(9223372036854775807:Nat)→b.length≤(9223372036854775807:Nat)→Cnd ((↑a.length:Int)=(↑b.length:Int)) (Lp1 (fun x2_0 Y2_1=>a.length≤(9223372036854775807:Nat)→Cnd (x2_0<(↑a.length:Int)) (((0:Int)≤x2_0∧x2_0<(↑a.length:Int))∧ ∀y4,a[x2_0.toNat]? =some y4→((0:Int)≤x2_0∧x2_0<(↑b.length:Int))∧ ∀y6,b[x2_0.toNat]? =some y6→Cnd (y4=y6) (InI (x2_0+(1:Int))∧Y2_1 (x2_0+(1:Int))) (K false)) (K true)) (0:Int)) (K false)
abbrev z4h:Type:=Val→Val→(Bool→Prop)→Prop
def j7c (X_r1_Same:z1q) (a:Val) (b:Val) (K:Bool→Prop):Prop:=Cnd (a.1=b.1) (Cnd (a.2=b.2) (Cnd (a.3=b.3) (X_r1_Same a.4 b.4 fun x0_0=>K x0_0) (K false)) (K false)) (K false)
def q7i (a:Val) (b:Val) (K:Bool→Prop):Prop:=j7c q6n a b K
abbrev q75:Type:=List (Val)→List (Val)→(Bool→Prop)→Prop
def z1r (X_r3_Equal:z4h) (a:List (Val)) (b:List (Val)) (K:Bool→Prop):Prop:=a.length≤(9223372036854775807:Nat)→b.length≤(9223372036854775807:Nat)→Cnd ((↑a.length:Int)=(↑b.length:Int)) (Lp1 (fun x2_0 Y2_1=>a.length≤(9223372036854775807:Nat)→Cnd (x2_0<(↑a.length:Int)) (((0:Int)≤x2_0∧x2_0<(↑a.length:Int))∧ ∀y4,a[x2_0.toNat]? =some y4→((0:Int)≤x2_0∧x2_0<(↑b.length:Int))∧ ∀y6,b[x2_0.toNat]? =some y6→X_r3_Equal y4 y6 fun x8_0=>Cnd (x8_0=true) (InI (x2_0+(1:Int))∧Y2_1 (x2_0+(1:Int))) (K false)) (K true)) (0:Int)) (K false)
def q3s (a:List (Val)) (b:List (Val)) (K:Bool→Prop):Prop:=z1r q7i a b K
abbrev q4c:Type:=Ex→Ex→(Bool→Prop)→Prop
def z5j (X_r6_SameValues:q75) (X:q4c) (a:Ex) (b:Ex) (K:Bool→Prop):Prop:=Cnd (a.1=b.1) (Cnd (a.2=b.2) (Cnd (a.3=b.3) (X_r6_SameValues a.4 b.4 fun x0_0=>Cnd (x0_0=true) (a.5.length≤(9223372036854775807:Nat)→b.5.length≤(9223372036854775807:Nat)→Cnd ((↑a.5.length:Int)=(↑b.5.length:Int)) (Lp1 (fun x3_0 Y3_1=>a.5.length≤(9223372036854775807:Nat)→Cnd (x3_0<(↑a.5.length:Int)) (((0:Int)≤x3_0∧x3_0<(↑a.5.length:Int))∧ ∀y5,a.5[x3_0.toNat]? =some y5→((0:Int)≤x3_0∧x3_0<(↑b.5.length:Int))∧ ∀y7,b.5[x3_0.toNat]? =some y7→X (Ex.mk y5.1 y5.2 y5.3 y5.4 y5.5) (Ex.mk y7.1 y7.2 y7.3 y7.4 y7.5) fun x9_0=>Cnd (x9_0=true) (InI (x3_0+(1:Int))∧Y3_1 (x3_0+(1:Int))) (K false)) (K true)) (0:Int)) (K false)) (K false)) (K false)) (K false)) (K false)
def q4d (a:Ex) (b:Ex) (K:Bool→Prop):Prop:= ∀X:q4c,(∀a b K,z5j q3s X a b K→X a b K)→X a b K
abbrev q63:Type:=List (Ex)→Ex→(Int→Prop)→Prop
def j2q (X_r6_SameExpr:q4c) (l:List (Ex)) (e:Ex) (K:Int→Prop):Prop:=Lp1 (fun x0_0 Y0_1=>l.length≤(9223372036854775807:Nat)→Cnd (x0_0<(↑l.length:Int)) (((0:Int)≤x0_0∧x0_0<(↑l.length:Int))∧ ∀y2,l[x0_0.toNat]? =some y2→X_r6_SameExpr (Ex.mk y2.1 y2.2 y2.3 y2.4 y2.5) (Ex.mk e.1 e.2 e.3 e.4 e.5) fun x4_0=>Cnd (x4_0=true) (K x0_0) (InI (x0_0+(1:Int))∧Y0_1 (x0_0+(1:Int)))) (K (-1:Int))) (0:Int)
def q3m (l:List (Ex)) (e:Ex) (K:Int→Prop):Prop:=j2q q4d l e K
abbrev q3n:Type:=List (Ex)→Ex→(List (Ex)→Prop)→Prop
def z3r (X_r11_Index:q63) (X_r6_IsTest:q11) (X:q3n) (l:List (Ex)) (e:Ex) (K:List (Ex)→Prop):Prop:=Jn1 (fun x0_0=>Lp2 (fun x1_0 x1_1 Y1_2=>e.5.length≤(9223372036854775807:Nat)→Cnd (x1_1<(↑e.5.length:Int)) (((0:Int)≤x1_1∧x1_1<(↑e.5.length:Int))∧ ∀y3,e.5[x1_1.toNat]? =some y3→X x1_0 (Ex.mk y3.1 y3.2 y3.3 y3.4 y3.5) fun x5_0=>InI (x1_1+(1:Int))∧Y1_2 x5_0 (x1_1+(1:Int))) (K x1_0)) x0_0 (0:Int)) fun Y0_0=>Cnd (e.1=(5:Int)) (X_r11_Index l (Ex.mk e.1 e.2 e.3 e.4 e.5) fun x1_0=>Cnd (x1_0<(0:Int)) ((Sml ([]++l).length∧Sml ([]++l++[Ex.mk e.1 e.2 e.3 e.4 e.5]).length∧Y0_0 ([]++l++[Ex.mk e.1 e.2 e.3 e.4 e.5]))∧Sml ([]++l).length∧Sml ([]++l++[Ex.mk e.1 e.2 e.3 e.4 e.5]).length∧Y0_0 ([]++l++[Ex.mk e.1 e.2 e.3 e.4 e.5])) (Y0_0 l)) (X_r6_IsTest e.1 fun x1_0=>Cnd (x1_0=true) (X_r11_Index l (Ex.mk e.1 e.2 e.3 e.4 e.5) fun x2_0=>Cnd (x2_0<(0:Int)) ((Sml ([]++l).length∧Sml ([]++l++[Ex.mk e.1 e.2 e.3 e.4 e.5]).length∧Y0_0 ([]++l++[Ex.mk e.1 e.2 e.3 e.4 e.5]))∧Sml ([]++l).length∧Sml ([]++l++[Ex.mk e.1 e.2 e.3 e.4 e.5]).length∧Y0_0 ([]++l++[Ex.mk e.1 e.2 e.3 e.4 e.5])) (Y0_0 l)) (Y0_0 l))
def q4z (l:List (Ex)) (e:Ex) (K:List (Ex)→Prop):Prop:= ∀X:q3n,(∀l e K,z3r q3m q1f X l e K→X l e K)→X l e K
abbrev q76:Type:=List (Rul)→(List (Ex)→Prop)→Prop
def z1s (X_r11_AddAtoms:q3n) (l:List (Rul)) (K:List (Ex)→Prop):Prop:=Lp2 (fun x0_0 x0_1 Y0_2=>l.length≤(9223372036854775807:Nat)→Cnd (x0_1<(↑l.length:Int)) (((0:Int)≤x0_1∧x0_1<(↑l.length:Int))∧ ∀y2,l[x0_1.toNat]? =some y2→X_r11_AddAtoms x0_0 (Ex.mk y2.2.1 y2.2.2 y2.2.3 y2.2.4 y2.2.5) fun x4_0=>InI (x0_1+(1:Int))∧Y0_2 x4_0 (x0_1+(1:Int))) (K x0_0)) [] (0:Int)
def q3t (l:List (Rul)) (K:List (Ex)→Prop):Prop:=z1s q4z l K
abbrev q1l:Type:=List (Nd)→(Nd→Option (Int))→Bool→Int→(Bool→List (Nd)→(Nd→Option (Int))→Bool→Prop)→Prop
def q04 (ns:List (Nd)) (ids:(Nd→Option (Int))) (full:Bool) (id:Int) (K:Bool→List (Nd)→(Nd→Option (Int))→Bool→Prop):Prop:=Cnd ((-1002:Int)<id) (ns.length≤(9223372036854775807:Nat)→K (decide (id<(↑ns.length:Int))) ns ids full) (K false ns ids full)
abbrev q6s:Type:=List (Nd)→(Nd→Option (Int))→Bool→Int→((Int→Option (Bool))→List (Nd)→(Nd→Option (Int))→Bool→Prop)→Prop
def q2k (ns:List (Nd)) (ids:(Nd→Option (Int))) (full:Bool) (id:Int) (K:(Int→Option (Bool))→List (Nd)→(Nd→Option (Int))→Bool→Prop):Prop:=Lp2 (fun x0_0 Y0_1 Y0_2=>x0_0.length≤(9223372036854775807:Nat)→Cnd ((0:Int)<(↑x0_0.length:Int)) (x0_0.length≤(9223372036854775807:Nat)→InI ((↑x0_0.length:Int) - (1:Int))∧((0:Int)≤(↑x0_0.length:Int) - (1:Int)∧(↑x0_0.length:Int) - (1:Int)<(↑x0_0.length:Int))∧ ∀y3,x0_0[((↑x0_0.length:Int) - (1:Int)).toNat]? =some y3→x0_0.length≤(9223372036854775807:Nat)→InI ((↑x0_0.length:Int) - (1:Int))∧((0:Int)≤(↑x0_0.length:Int) - (1:Int)∧(↑x0_0.length:Int) - (1:Int)≤(↑x0_0.length:Int))∧Cnd ((Y0_1 y3).getD false=true) (Y0_2 (List.take ((↑x0_0.length:Int) - (1:Int)).toNat x0_0) Y0_1) (Cnd ((0:Int)≤y3) (((0:Int)≤y3∧y3<(↑ns.length:Int))∧ ∀y6,ns[y3.toNat]? =some y6→((0:Int)≤y3∧y3<(↑ns.length:Int))∧ ∀y8,ns[y3.toNat]? =some y8→Sml (List.take ((↑x0_0.length:Int) - (1:Int)).toNat x0_0++[y6.snd.fst,y8.snd.snd]).length∧Y0_2 (List.take ((↑x0_0.length:Int) - (1:Int)).toNat x0_0++[y6.snd.fst,y8.snd.snd]) (put Y0_1 y3 true)) (Y0_2 (List.take ((↑x0_0.length:Int) - (1:Int)).toNat x0_0) (put Y0_1 y3 true)))) (K Y0_1 ns ids full)) [id] fun _=>none
abbrev q52:Type:=List (Nd)→(Nd→Option (Int))→Bool→Int→(List (Int)→List (Nd)→(Nd→Option (Int))→Bool→Prop)→Prop
def z4i (X_r17Store_is:q1l) (X_r17Store_reach:q6s) (ns:List (Nd)) (ids:(Nd→Option (Int))) (full:Bool) (id:Int) (K:List (Int)→List (Nd)→(Nd→Option (Int))→Bool→Prop):Prop:=X_r17Store_is ns ids full id fun x0_0 (x0_1:List (Int×Int×Int)) Y0_2 x0_3=>Cnd (x0_0=true) (X_r17Store_reach x0_1 Y0_2 x0_3 id fun Y1_0 (x1_1:List (Int×Int×Int)) Y1_2 x1_3=>Lp2 (fun x2_0 x2_1 Y2_2=>Cnd (x2_1≤(1000:Int)) (InI ((-1:Int) - x2_1)∧Cnd ((Y1_0 ((-1:Int) - x2_1)).getD false=true) (Sml (x2_0++[x2_1]).length∧InI (x2_1+(1:Int))∧Y2_2 (x2_0++[x2_1]) (x2_1+(1:Int))) (InI (x2_1+(1:Int))∧Y2_2 x2_0 (x2_1+(1:Int)))) (K x2_0 x1_1 Y1_2 x1_3)) [] (0:Int)) (K [] x0_1 Y0_2 x0_3)
def q2t (ns:List (Nd)) (ids:(Nd→Option (Int))) (full:Bool) (id:Int) (K:List (Int)→List (Nd)→(Nd→Option (Int))→Bool→Prop):Prop:=z4i q04 q2k ns ids full id K
abbrev q0y:Type:=List (Nd)→(Nd→Option (Int))→Bool→Int→(Bool→List (Nd)→(Nd→Option (Int))→Bool→Prop)→Prop
def z0m (X_r17Store_is:q1l) (X_r17Store_Leaves:q52) (ns:List (Nd)) (ids:(Nd→Option (Int))) (full:Bool) (id:Int) (K:Bool→List (Nd)→(Nd→Option (Int))→Bool→Prop):Prop:=X_r17Store_is ns ids full id fun x0_0 (x0_1:List (Int×Int×Int)) Y0_2 x0_3=>Cnd (x0_0=true) (X_r17Store_Leaves x0_1 Y0_2 x0_3 id fun x1_0 (x1_1:List (Int×Int×Int)) Y1_2 x1_3=>Lp1 (fun x2_0 Y2_1=>x1_0.length≤(9223372036854775807:Nat)→Cnd (x2_0<(↑x1_0.length:Int)) (((0:Int)≤x2_0∧x2_0<(↑x1_0.length:Int))∧ ∀y4,x1_0[x2_0.toNat]? =some y4→Cnd ((1:Int)<y4) (K false x1_1 Y1_2 x1_3) (InI (x2_0+(1:Int))∧Y2_1 (x2_0+(1:Int)))) (K true x1_1 Y1_2 x1_3)) (0:Int)) (K false x0_1 Y0_2 x0_3)
def q0q (ns:List (Nd)) (ids:(Nd→Option (Int))) (full:Bool) (id:Int) (K:Bool→List (Nd)→(Nd→Option (Int))→Bool→Prop):Prop:=z0m q04 q2t ns ids full id K
abbrev q10:Type:=List (Nd)→(Nd→Option (Int))→Bool→Int→(Int→List (Nd)→(Nd→Option (Int))→Bool→Prop)→Prop
def q08 (ns:List (Nd)) (ids:(Nd→Option (Int))) (full:Bool) (id:Int) (K:Int→List (Nd)→(Nd→Option (Int))→Bool→Prop):Prop:=Cnd (id<(0:Int)) (K (1001:Int) ns ids full) (((0:Int)≤id∧id<(↑ns.length:Int))∧ ∀y0,ns[id.toNat]? =some y0→K y0.fst ns ids full)
abbrev q6t:Type:=List (Nd)→(Nd→Option (Int))→Bool→Int→Int→(Int→Int→List (Nd)→(Nd→Option (Int))→Bool→Prop)→Prop
def z6t (X_r17Store_top:q10) (ns:List (Nd)) (ids:(Nd→Option (Int))) (full:Bool) (id:Int) (test:Int) (K:Int→Int→List (Nd)→(Nd→Option (Int))→Bool→Prop):Prop:=X_r17Store_top ns ids full id fun x0_0 (x0_1:List (Int×Int×Int)) Y0_2 x0_3=>Cnd (x0_0=test) (((0:Int)≤id∧id<(↑x0_1.length:Int))∧ ∀y1,x0_1[id.toNat]? =some y1→((0:Int)≤id∧id<(↑x0_1.length:Int))∧ ∀y3,x0_1[id.toNat]? =some y3→K y1.snd.fst y3.snd.snd x0_1 Y0_2 x0_3) (K id id x0_1 Y0_2 x0_3)
def q2l (ns:List (Nd)) (ids:(Nd→Option (Int))) (full:Bool) (id:Int) (test:Int) (K:Int→Int→List (Nd)→(Nd→Option (Int))→Bool→Prop):Prop:=z6t q08 ns ids full id test K
abbrev q2z:Type:=List (Nd)→(Nd→Option (Int))→Bool→Int→Int→Int→(Int→List (Nd)→(Nd→Option (Int))→Bool→Prop)→Prop
def z70 (X_r17Store_is:q1l) (X_r17Store_top:q10) (ns:List (Nd)) (ids:(Nd→Option (Int))) (full:Bool) (test:Int) (yes:Int) (no:Int) (K:Int→List (Nd)→(Nd→Option (Int))→Bool→Prop):Prop:=Cnd (test<(0:Int)) (K (-1002:Int) ns ids full) (Cnd ((1000:Int)<test) (K (-1002:Int) ns ids full) (X_r17Store_is ns ids full yes fun x0_0 (x0_1:List (Int×Int×Int)) Y0_2 x0_3=>Cnd (x0_0=true) (X_r17Store_is x0_1 Y0_2 x0_3 no fun x1_0 (x1_1:List (Int×Int×Int)) Y1_2 x1_3=>Cnd (x1_0=true) (X_r17Store_top x1_1 Y1_2 x1_3 yes fun x2_0 (x2_1:List (Int×Int×Int)) Y2_2 x2_3=>Cnd (x2_0≤test) (K (-1002:Int) x2_1 Y2_2 x2_3) (X_r17Store_top x2_1 Y2_2 x2_3 no fun x3_0 (x3_1:List (Int×Int×Int)) Y3_2 x3_3=>Cnd (x3_0≤test) (K (-1002:Int) x3_1 Y3_2 x3_3) (Cnd (yes=no) (K yes x3_1 Y3_2 x3_3) (Cnd ((Y3_2 (test,yes,no)).isSome=true) (K ((Y3_2 (test,yes,no)).getD (0:Int)) x3_1 Y3_2 x3_3) (x3_1.length≤(9223372036854775807:Nat)→Cnd ((4000:Int)≤(↑x3_1.length:Int)) (K (-1002:Int) x3_1 Y3_2 true) (x3_1.length≤(9223372036854775807:Nat)→Sml (x3_1++[(test,yes,no)]).length∧((x3_1++[(test,yes,no)]).length≤(9223372036854775807:Nat)→InI ((↑(x3_1++[(test,yes,no)]).length:Int) - (1:Int))∧K ((↑(x3_1++[(test,yes,no)]).length:Int) - (1:Int)) (x3_1++[(test,yes,no)]) (put Y3_2 (test,yes,no) (↑x3_1.length:Int)) x3_3))))))) (K (-1002:Int) x1_1 Y1_2 x1_3)) (K (-1002:Int) x0_1 Y0_2 x0_3)))
def q1t (ns:List (Nd)) (ids:(Nd→Option (Int))) (full:Bool) (test:Int) (yes:Int) (no:Int) (K:Int→List (Nd)→(Nd→Option (Int))→Bool→Prop):Prop:=z70 q04 q08 ns ids full test yes no K
abbrev q16:Type:=List (Nd)→(Nd→Option (Int))→Bool→Int→Int→Int→(A3→Option (Int))→(Int→List (Nd)→(Nd→Option (Int))→Bool→(A3→Option (Int))→Prop)→Prop
def q3u (X_r17Store_top:q10) (X_r17Store_sides:q6t) (X_r17Store_Node:q2z) (X:q16) (ns:List (Nd)) (ids:(Nd→Option (Int))) (full:Bool) (f:Int) (g:Int) (h:Int) (known:(A3→Option (Int))) (K:Int→List (Nd)→(Nd→Option (Int))→Bool→(A3→Option (Int))→Prop):Prop:=Cnd (f=(-2:Int)) (K g ns ids full known) (Cnd (g=h) (K g ns ids full known) (Cnd (f=(-1:Int)) (K h ns ids full known) (Cnd ((known (f,g,h)).isSome=true) (K ((known (f,g,h)).getD (0:Int)) ns ids full known) (X_r17Store_top ns ids full f fun x0_0 (x0_1:List (Int×Int×Int)) Y0_2 x0_3=>X_r17Store_top x0_1 Y0_2 x0_3 g fun x1_0 (x1_1:List (Int×Int×Int)) Y1_2 x1_3=>X_r17Store_top x1_1 Y1_2 x1_3 h fun x2_0 (x2_1:List (Int×Int×Int)) Y2_2 x2_3=>X_r17Store_sides x2_1 Y2_2 x2_3 f (Min.min (Min.min x0_0 x1_0) x2_0) fun x3_0 x3_1 (x3_2:List (Int×Int×Int)) Y3_3 x3_4=>X_r17Store_sides x3_2 Y3_3 x3_4 g (Min.min (Min.min x0_0 x1_0) x2_0) fun x4_0 x4_1 (x4_2:List (Int×Int×Int)) Y4_3 x4_4=>X_r17Store_sides x4_2 Y4_3 x4_4 h (Min.min (Min.min x0_0 x1_0) x2_0) fun x5_0 x5_1 (x5_2:List (Int×Int×Int)) Y5_3 x5_4=>X x5_2 Y5_3 x5_4 x3_0 x4_0 x5_0 known fun x6_0 (x6_1:List (Int×Int×Int)) Y6_2 x6_3 Y6_4=>X x6_1 Y6_2 x6_3 x3_1 x4_1 x5_1 Y6_4 fun x7_0 (x7_1:List (Int×Int×Int)) Y7_2 x7_3 Y7_4=>Jn4 (fun x8_0 (x8_1:List (Int×Int×Int)) x8_2 Y8_3=>K x8_0 x8_1 Y8_3 x8_2 (put Y7_4 (f,g,h) x8_0)) fun Y8_0=>Cnd (x6_0=(-1002:Int)) (Y8_0 (-1002:Int) x7_1 x7_3 Y7_2) (Cnd (x7_0=(-1002:Int)) (Y8_0 (-1002:Int) x7_1 x7_3 Y7_2) (X_r17Store_Node x7_1 Y7_2 x7_3 (Min.min (Min.min x0_0 x1_0) x2_0) x6_0 x7_0 fun x9_0 (x9_1:List (Int×Int×Int)) Y9_2 x9_3=>Y8_0 x9_0 x9_1 x9_3 Y9_2))))))
def q2u (ns:List (Nd)) (ids:(Nd→Option (Int))) (full:Bool) (f:Int) (g:Int) (h:Int) (known:(A3→Option (Int))) (K:Int→List (Nd)→(Nd→Option (Int))→Bool→(A3→Option (Int))→Prop):Prop:= ∀X:q16,(∀ns ids full f g h known K,q3u q08 q2l q1t X ns ids full f g h known K→X ns ids full f g h known K)→X ns ids full f g h known K
abbrev q1d:Type:=List (Nd)→(Nd→Option (Int))→Bool→Int→Int→Int→(Int→List (Nd)→(Nd→Option (Int))→Bool→Prop)→Prop
def z4j (X_r17Store_condition:q0y) (X_r17Store_is:q1l) (X_r17Store_choose:q16) (ns:List (Nd)) (ids:(Nd→Option (Int))) (full:Bool) (f:Int) (g:Int) (h:Int) (K:Int→List (Nd)→(Nd→Option (Int))→Bool→Prop):Prop:=X_r17Store_condition ns ids full f fun x0_0 (x0_1:List (Int×Int×Int)) Y0_2 x0_3=>Cnd (x0_0=true) (X_r17Store_is x0_1 Y0_2 x0_3 g fun x1_0 (x1_1:List (Int×Int×Int)) Y1_2 x1_3=>Cnd (x1_0=true) (X_r17Store_is x1_1 Y1_2 x1_3 h fun x2_0 (x2_1:List (Int×Int×Int)) Y2_2 x2_3=>Cnd (x2_0=true) (X_r17Store_choose x2_1 Y2_2 x2_3 f g h (fun _=>none) fun x3_0 (x3_1:List (Int×Int×Int)) Y3_2 x3_3 _=>K x3_0 x3_1 Y3_2 x3_3) (K (-1002:Int) x2_1 Y2_2 x2_3)) (K (-1002:Int) x1_1 Y1_2 x1_3)) (K (-1002:Int) x0_1 Y0_2 x0_3)
def q00 (ns:List (Nd)) (ids:(Nd→Option (Int))) (full:Bool) (f:Int) (g:Int) (h:Int) (K:Int→List (Nd)→(Nd→Option (Int))→Bool→Prop):Prop:=z4j q0q q04 q2u ns ids full f g h K
abbrev q9u:Type:=List (Nd)→(Nd→Option (Int))→Bool→Int→(Int→List (Nd)→(Nd→Option (Int))→Bool→Prop)→Prop
def j1h (X_r17Store_Choose:q1d) (ns:List (Nd)) (ids:(Nd→Option (Int))) (full:Bool) (f:Int) (K:Int→List (Nd)→(Nd→Option (Int))→Bool→Prop):Prop:=X_r17Store_Choose ns ids full f (-1:Int) (-2:Int) fun x0_0 (x0_1:List (Int×Int×Int)) Y0_2 x0_3=>K x0_0 x0_1 Y0_2 x0_3
def q40 (ns:List (Nd)) (ids:(Nd→Option (Int))) (full:Bool) (f:Int) (K:Int→List (Nd)→(Nd→Option (Int))→Bool→Prop):Prop:=j1h q00 ns ids full f K
abbrev q9v:Type:=List (Nd)→(Nd→Option (Int))→Bool→Int→Int→(Int→List (Nd)→(Nd→Option (Int))→Bool→Prop)→Prop
def j1i (X_r17Store_condition:q0y) (X_r17Store_Choose:q1d) (ns:List (Nd)) (ids:(Nd→Option (Int))) (full:Bool) (f:Int) (g:Int) (K:Int→List (Nd)→(Nd→Option (Int))→Bool→Prop):Prop:=X_r17Store_condition ns ids full g fun x0_0 (x0_1:List (Int×Int×Int)) Y0_2 x0_3=>Cnd (x0_0=true) (X_r17Store_Choose x0_1 Y0_2 x0_3 f g (-1:Int) fun x1_0 (x1_1:List (Int×Int×Int)) Y1_2 x1_3=>K x1_0 x1_1 Y1_2 x1_3) (K (-1002:Int) x0_1 Y0_2 x0_3)
def q41 (ns:List (Nd)) (ids:(Nd→Option (Int))) (full:Bool) (f:Int) (g:Int) (K:Int→List (Nd)→(Nd→Option (Int))→Bool→Prop):Prop:=j1i q0q q00 ns ids full f g K
abbrev q4e:Type:=List (Nd)→(Nd→Option (Int))→Bool→Int→Int→(Int→List (Nd)→(Nd→Option (Int))→Bool→Prop)→Prop
def j4k (X_r17Store_condition:q0y) (X_r17Store_Choose:q1d) (ns:List (Nd)) (ids:(Nd→Option (Int))) (full:Bool) (f:Int) (g:Int) (K:Int→List (Nd)→(Nd→Option (Int))→Bool→Prop):Prop:=X_r17Store_condition ns ids full g fun x0_0 (x0_1:List (Int×Int×Int)) Y0_2 x0_3=>Cnd (x0_0=true) (X_r17Store_Choose x0_1 Y0_2 x0_3 f (-2:Int) g fun x1_0 (x1_1:List (Int×Int×Int)) Y1_2 x1_3=>K x1_0 x1_1 Y1_2 x1_3) (K (-1002:Int) x0_1 Y0_2 x0_3)
def q2o (ns:List (Nd)) (ids:(Nd→Option (Int))) (full:Bool) (f:Int) (g:Int) (K:Int→List (Nd)→(Nd→Option (Int))→Bool→Prop):Prop:=j4k q0q q00 ns ids full f g K
abbrev q20:Type:=List (Nd)→(Nd→Option (Int))→Bool→List (Ex)→Ex→(Int→List (Nd)→(Nd→Option (Int))→Bool→Prop)→Prop
def z1t (X_r17Store_Not:q9u) (X_r17Store_And:q9v) (X_r17Store_Or:q4e) (X_r11_Index:q63) (X_r17Store_Node:q2z) (X:q20) (ns:List (Nd)) (ids:(Nd→Option (Int))) (full:Bool) (atoms:List (Ex)) (e:Ex) (K:Int→List (Nd)→(Nd→Option (Int))→Bool→Prop):Prop:=Cnd (e.1=(1:Int)) (K (-2:Int) ns ids full) (Cnd (e.1=(4:Int)) (((0:Int)≤(0:Int)∧(0:Int)<(↑e.5.length:Int))∧ ∀y0,e.5[Int.toNat (0:Int)]? =some y0→X ns ids full atoms (Ex.mk y0.1 y0.2 y0.3 y0.4 y0.5) fun x2_0 (x2_1:List (Int×Int×Int)) Y2_2 x2_3=>X_r17Store_Not x2_1 Y2_2 x2_3 x2_0 fun x3_0 (x3_1:List (Int×Int×Int)) Y3_2 x3_3=>K x3_0 x3_1 Y3_2 x3_3) (Jn1 (fun x0_0=>Cnd (x0_0=true) (((0:Int)≤(0:Int)∧(0:Int)<(↑e.5.length:Int))∧ ∀y1,e.5[Int.toNat (0:Int)]? =some y1→X ns ids full atoms (Ex.mk y1.1 y1.2 y1.3 y1.4 y1.5) fun x3_0 (x3_1:List (Int×Int×Int)) Y3_2 x3_3=>Lp5 (fun x4_0 x4_1 (x4_2:List (Int×Int×Int)) x4_3 Y4_4 Y4_5=>e.5.length≤(9223372036854775807:Nat)→Cnd (x4_1<(↑e.5.length:Int)) (((0:Int)≤x4_1∧x4_1<(↑e.5.length:Int))∧ ∀y6,e.5[x4_1.toNat]? =some y6→X x4_2 Y4_4 x4_3 atoms (Ex.mk y6.1 y6.2 y6.3 y6.4 y6.5) fun x8_0 (x8_1:List (Int×Int×Int)) Y8_2 x8_3=>Cnd (e.1=(2:Int)) (X_r17Store_And x8_1 Y8_2 x8_3 x4_0 x8_0 fun x9_0 (x9_1:List (Int×Int×Int)) Y9_2 x9_3=>InI (x4_1+(1:Int))∧Y4_5 x9_0 (x4_1+(1:Int)) x9_1 x9_3 Y9_2) (X_r17Store_Or x8_1 Y8_2 x8_3 x4_0 x8_0 fun x9_0 (x9_1:List (Int×Int×Int)) Y9_2 x9_3=>InI (x4_1+(1:Int))∧Y4_5 x9_0 (x4_1+(1:Int)) x9_1 x9_3 Y9_2)) (K x4_0 x4_2 Y4_4 x4_3)) x3_0 (1:Int) x3_1 x3_3 Y3_2) (X_r11_Index atoms (Ex.mk e.1 e.2 e.3 e.4 e.5) fun x1_0=>Cnd (x1_0<(0:Int)) (K (-1002:Int) ns ids full) (X_r17Store_Node ns ids full x1_0 (-2:Int) (-1:Int) fun x2_0 (x2_1:List (Int×Int×Int)) Y2_2 x2_3=>K x2_0 x2_1 Y2_2 x2_3))) fun Y0_0=>Cnd (e.1=(2:Int)) (Y0_0 (decide (e.1=(2:Int)))) (Y0_0 (decide (e.1=(3:Int))))))
def q3v (ns:List (Nd)) (ids:(Nd→Option (Int))) (full:Bool) (atoms:List (Ex)) (e:Ex) (K:Int→List (Nd)→(Nd→Option (Int))→Bool→Prop):Prop:= ∀X:q20,(∀ns ids full atoms e K,z1t q40 q41 q2o q3m q1t X ns ids full atoms e K→X ns ids full atoms e K)→X ns ids full atoms e K
abbrev q17:Type:=List (Rul)→(List (Int)→Int→Bool→Prop)→Prop
def q8x (X_r17_New:j4j) (X_r17_RuleAtoms:q76) (X_r17_Condition:q20) (X_r17Store_Or:q4e) (l:List (Rul)) (K:List (Int)→Int→Bool→Prop):Prop:=X_r17_New fun (x0_0:List (Int×Int×Int)) Y0_1 x0_2=>X_r17_RuleAtoms l fun x1_0=>LpH (fun x2_0 Y2_1=>l.length≤(9223372036854775807:Nat)→Cnd (x2_0.snd.snd.fst<(↑l.length:Int)) (((0:Int)≤x2_0.snd.snd.fst∧x2_0.snd.snd.fst<(↑l.length:Int))∧ ∀y4,l[x2_0.snd.snd.fst.toNat]? =some y4→X_r17_Condition x2_0.snd.snd.snd.fst x2_0.snd.snd.snd.snd.snd.fst x2_0.snd.snd.snd.snd.fst x1_0 (Ex.mk y4.2.1 y4.2.2 y4.2.3 y4.2.4 y4.2.5) fun x6_0 (x6_1:List (Int×Int×Int)) Y6_2 x6_3=>X_r17Store_Or x6_1 Y6_2 x6_3 x2_0.fst x6_0 fun x7_0 (x7_1:List (Int×Int×Int)) Y7_2 x7_3=>Cnd (x7_0=(-1002:Int)) (x7_1.length≤(9223372036854775807:Nat)→K [] (↑x7_1.length:Int) false) (Cnd (x7_0=x2_0.fst) (InI (x2_0.snd.snd.fst+(1:Int))∧Sml (x2_0.snd.fst++[x2_0.snd.snd.fst+(1:Int)]).length∧InI (x2_0.snd.snd.fst+(1:Int))∧Y2_1 (x7_0,x2_0.snd.fst++[x2_0.snd.snd.fst+(1:Int)],x2_0.snd.snd.fst+(1:Int),x7_1,x7_3,Y7_2,())) (InI (x2_0.snd.snd.fst+(1:Int))∧Y2_1 (x7_0,x2_0.snd.fst,x2_0.snd.snd.fst+(1:Int),x7_1,x7_3,Y7_2,())))) (x2_0.snd.snd.snd.fst.length≤(9223372036854775807:Nat)→K x2_0.snd.fst (↑x2_0.snd.snd.snd.fst.length:Int) true)) ((-1:Int),[],(0:Int),x0_0,x0_2,Y0_1,())
def q1m (l:List (Rul)) (K:List (Int)→Int→Bool→Prop):Prop:=q8x z7z q3t q3v q2o l K
abbrev j4l:Type:=List (Int)→Int→ByteArray→(Lay_→Int→Prop)→Prop
def w36 (X_d_Text:q50) (X_d_Next:q0r) (X_d_Wide:q9t) (list:List (Int)) (at_:Int) (key:ByteArray) (K:Lay_→Int→Prop):Prop:=X_d_Text list at_ fun x0_0 x0_1=>X_d_Next list x0_1 (3:Int) fun x1_0 x1_1=>InI (x1_0*(50:Int))∧Jn2 (fun x2_0 x2_1=>Jn2 (fun x3_0 x3_1=>Lp4 (fun x4_0 x4_1 x4_2 x4_3 Y4_4=>X_d_Next list x4_3 (3:Int) fun x5_0 x5_1=>Cnd (x4_1<x5_0) (X_d_Wide list x5_1 (3000:Int) fun x6_0 x6_1=>InI (x4_0+x6_0)∧InI (x4_0+x6_0+(1:Int))∧X_d_Wide list x6_1 (2000:Int) fun x7_0 x7_1=>InI (x4_0+x6_0+(1:Int)+x7_0)∧Cnd ((10000:Int)<x4_0+x6_0+(1:Int)+x7_0) (K (Lay_.mk key x2_0 x0_0 x3_0 (x1_0*(50:Int)) x4_2) x7_1) (X_d_Next list x7_1 (200:Int) fun x8_0 x8_1=>Sml (x4_2++[Col.mk (x4_0+x6_0) (x4_0+x6_0+(1:Int)+x7_0) x8_0]).length∧InI (x4_1+(1:Int))∧Y4_4 (x4_0+x6_0+(1:Int)+x7_0) (x4_1+(1:Int)) (x4_2++[Col.mk (x4_0+x6_0) (x4_0+x6_0+(1:Int)+x7_0) x8_0]) x8_1)) (K (Lay_.mk key x2_0 x0_0 x3_0 (x1_0*(50:Int)) x4_2) x5_1)) (0:Int) (0:Int) [] x3_1) fun Y3_0=>X_d_Next list x2_1 (2:Int) fun x4_0 x4_1=>Cnd (x4_0=(1:Int)) (X_d_Wide list x4_1 (3000:Int) fun x5_0 x5_1=>Y3_0 x5_0 x5_1) (Y3_0 (0:Int) x4_1)) fun Y2_0=>X_d_Next list x1_1 (4:Int) fun x3_0 x3_1=>Cnd (x3_0=(1:Int)) (Y2_0 (ByteArray.mk (Array.mk [100,101,118,105,99,101])) x3_1) (Y2_0 (ByteArray.mk (Array.mk [117,115,101,114])) x3_1)
def z4k (list:List (Int)) (at_:Int) (key:ByteArray) (K:Lay_→Int→Prop):Prop:=w36 q4b q0o q6r list at_ key K
abbrev j0h:Type:=Int→(Bool→Prop)→Prop
def q8y (now:Int) (K:Bool→Prop):Prop:=Cnd ((0:Int)≤now) (K (decide (now≤(1099511627776:Int)))) (K false)
abbrev q2b:Type:=Envt→ByteArray→(Int→Prop)→Prop
def q1v (v:Envt) (key:ByteArray) (K:Int→Prop):Prop:=Lp1 (fun x0_0 Y0_1=>v.5.length≤(9223372036854775807:Nat)→Cnd (x0_0<(↑v.5.length:Int)) (((0:Int)≤x0_0∧x0_0<(↑v.5.length:Int))∧ ∀y2,v.5[x0_0.toNat]? =some y2→Cnd (y2.1=key) (K x0_0) (InI (x0_0+(1:Int))∧Y0_1 (x0_0+(1:Int)))) (K (-1:Int))) (0:Int)
abbrev q77:Type:=List (Col)→Int→(List (Int)→Prop)→Prop
def q21 (l:List (Col)) (now:Int) (K:List (Int)→Prop):Prop:=((0:Int)≤(10000:Int)∧(10000:Int)≤(10000:Int)∧Sml (Int.toNat (10000:Int)))∧Lp2 (fun x0_0 x0_1 Y0_2=>x0_1.length≤(9223372036854775807:Nat)→Cnd (x0_0<(↑x0_1.length:Int)) (((0:Int)≤x0_0∧x0_0<(↑x0_1.length:Int))∧ ∀y2,x0_1[x0_0.toNat]? =some y2→InI (x0_0+(1:Int))∧Y0_2 (x0_0+(1:Int)) (x0_1.set x0_0.toNat now)) (Lp2 (fun x2_0 x2_1 Y2_2=>l.length≤(9223372036854775807:Nat)→Cnd (x2_0<(↑l.length:Int)) (((0:Int)≤x2_0∧x2_0<(↑l.length:Int))∧ ∀y4,l[x2_0.toNat]? =some y4→Lp2 (fun x6_0 x6_1 Y6_2=>((0:Int)≤x2_0∧x2_0<(↑l.length:Int))∧ ∀y7,l[x2_0.toNat]? =some y7→Cnd (x6_0<Min.min y7.2 (10000:Int)) (((0:Int)≤x6_0∧x6_0<(↑x6_1.length:Int))∧ ∀y9,x6_1[x6_0.toNat]? =some y9→((0:Int)≤x2_0∧x2_0<(↑l.length:Int))∧ ∀y11,l[x2_0.toNat]? =some y11→((0:Int)≤x6_0∧x6_0<(↑x6_1.length:Int))∧ ∀y13,x6_1[x6_0.toNat]? =some y13→InI (x6_0+(1:Int))∧Y6_2 (x6_0+(1:Int)) (x6_1.set x6_0.toNat (Max.max y9 y11.3))) (InI (x2_0+(1:Int))∧Y2_2 (x2_0+(1:Int)) x6_1)) (Max.max y4.1 (0:Int)) x2_1) (K x2_1)) (0:Int) x0_1)) (0:Int) (List.replicate (Int.toNat (10000:Int)) (0:Int))
abbrev q1s:Type:=List (Bool)→(List (Spn)→Prop)→Prop
def q1b (set_:List (Bool)) (K:List (Spn)→Prop):Prop:=Lp2 (fun x0_0 x0_1 Y0_2=>set_.length≤(9223372036854775807:Nat)→Cnd (x0_1<(↑set_.length:Int)) (((0:Int)≤x0_1∧x0_1<(↑set_.length:Int))∧ ∀y2,set_[x0_1.toNat]? =some y2→Cnd (y2=true) (Cnd ((0:Int)<x0_1) (InI (x0_1 - (1:Int))∧((0:Int)≤x0_1 - (1:Int)∧x0_1 - (1:Int)<(↑set_.length:Int))∧ ∀y4,set_[(x0_1 - (1:Int)).toNat]? =some y4→Cnd (y4=true) (x0_0.length≤(9223372036854775807:Nat)→InI ((↑x0_0.length:Int) - (1:Int))∧InI (x0_1+(1:Int))∧((0:Int)≤(↑x0_0.length:Int) - (1:Int)∧(↑x0_0.length:Int) - (1:Int)<(↑x0_0.length:Int))∧ ∀y7,x0_0[((↑x0_0.length:Int) - (1:Int)).toNat]? =some y7→InI (x0_1+(1:Int))∧Y0_2 (x0_0.set ((↑x0_0.length:Int) - (1:Int)).toNat (Spn.mk y7.1 (x0_1+(1:Int)))) (x0_1+(1:Int))) (InI (x0_1+(1:Int))∧Sml (x0_0++[Spn.mk x0_1 (x0_1+(1:Int))]).length∧InI (x0_1+(1:Int))∧Y0_2 (x0_0++[Spn.mk x0_1 (x0_1+(1:Int))]) (x0_1+(1:Int)))) (InI (x0_1+(1:Int))∧Sml (x0_0++[Spn.mk x0_1 (x0_1+(1:Int))]).length∧InI (x0_1+(1:Int))∧Y0_2 (x0_0++[Spn.mk x0_1 (x0_1+(1:Int))]) (x0_1+(1:Int)))) (InI (x0_1+(1:Int))∧Y0_2 x0_0 (x0_1+(1:Int)))) (K x0_0)) [] (0:Int)
abbrev z5k:Type:=List (Int)→Int→(List (Spn)→Prop)→Prop
def j2r (X_r14_Spans:q1s) (until_:List (Int)) (now:Int) (K:List (Spn)→Prop):Prop:=until_.length≤(9223372036854775807:Nat)→((0:Int)≤(↑until_.length:Int)∧(↑until_.length:Int)≤(↑until_.length:Int)∧Sml (↑until_.length:Int).toNat)∧Lp2 (fun x1_0 x1_1 Y1_2=>until_.length≤(9223372036854775807:Nat)→Cnd (x1_0<(↑until_.length:Int)) (((0:Int)≤x1_0∧x1_0<(↑until_.length:Int))∧ ∀y3,until_[x1_0.toNat]? =some y3→((0:Int)≤x1_0∧x1_0<(↑x1_1.length:Int))∧ ∀y5,x1_1[x1_0.toNat]? =some y5→InI (x1_0+(1:Int))∧Y1_2 (x1_0+(1:Int)) (x1_1.set x1_0.toNat (decide (now<y3)))) (X_r14_Spans x1_1 fun x3_0=>K x3_0)) (0:Int) (List.replicate (↑until_.length:Int).toNat false)
def q8z (until_:List (Int)) (now:Int) (K:List (Spn)→Prop):Prop:=j2r q1b until_ now K
abbrev q3w:Type:=List (Spn)→(List (Bool)→Prop)→Prop
def q2n (l:List (Spn)) (K:List (Bool)→Prop):Prop:=((0:Int)≤(10000:Int)∧(10000:Int)≤(10000:Int)∧Sml (Int.toNat (10000:Int)))∧Lp2 (fun x0_0 x0_1 Y0_2=>l.length≤(9223372036854775807:Nat)→Cnd (x0_0<(↑l.length:Int)) (((0:Int)≤x0_0∧x0_0<(↑l.length:Int))∧ ∀y2,l[x0_0.toNat]? =some y2→Lp2 (fun x4_0 x4_1 Y4_2=>((0:Int)≤x0_0∧x0_0<(↑l.length:Int))∧ ∀y5,l[x0_0.toNat]? =some y5→Cnd (x4_0<Min.min y5.2 (10000:Int)) (((0:Int)≤x4_0∧x4_0<(↑x4_1.length:Int))∧ ∀y7,x4_1[x4_0.toNat]? =some y7→InI (x4_0+(1:Int))∧Y4_2 (x4_0+(1:Int)) (x4_1.set x4_0.toNat true)) (InI (x0_0+(1:Int))∧Y0_2 (x0_0+(1:Int)) x4_1)) (Max.max y2.1 (0:Int)) x0_1) (K x0_1)) (0:Int) (List.replicate (Int.toNat (10000:Int)) false)
abbrev z5l:Type:=List (Spn)→List (Spn)→(List (Spn)→Prop)→Prop
def j2s (X_r14_Set:q3w) (X_r14_Spans:q1s) (a:List (Spn)) (b:List (Spn)) (K:List (Spn)→Prop):Prop:=X_r14_Set a fun x0_0=>X_r14_Set b fun x1_0=>Lp2 (fun x2_0 x2_1 Y2_2=>x2_1.length≤(9223372036854775807:Nat)→Cnd (x2_0<(↑x2_1.length:Int)) (((0:Int)≤x2_0∧x2_0<(↑x2_1.length:Int))∧ ∀y4,x2_1[x2_0.toNat]? =some y4→Cnd (y4=true) (((0:Int)≤x2_0∧x2_0<(↑x2_1.length:Int))∧ ∀y6,x2_1[x2_0.toNat]? =some y6→InI (x2_0+(1:Int))∧Y2_2 (x2_0+(1:Int)) (x2_1.set x2_0.toNat true)) (((0:Int)≤x2_0∧x2_0<(↑x1_0.length:Int))∧ ∀y6,x1_0[x2_0.toNat]? =some y6→((0:Int)≤x2_0∧x2_0<(↑x2_1.length:Int))∧ ∀y8,x2_1[x2_0.toNat]? =some y8→InI (x2_0+(1:Int))∧Y2_2 (x2_0+(1:Int)) (x2_1.set x2_0.toNat y6))) (X_r14_Spans x2_1 fun x4_0=>K x4_0)) (0:Int) x0_0
def q80 (a:List (Spn)) (b:List (Spn)) (K:List (Spn)→Prop):Prop:=j2s q2n q1b a b K
abbrev z5m:Type:=Envt→ByteArray→ByteArray→Int→(List (Spn)→Prop)→Prop
def j2t (X_r14_LayerOf:q2b) (X_r14_Union:z5l) (X_r14_Protected:q77) (X_r14_later:z5k) (v:Envt) (layer:ByteArray) (but:ByteArray) (now:Int) (K:List (Spn)→Prop):Prop:=X_r14_LayerOf (Envt.mk (Sett.mk v.1.1 v.1.2 v.1.3) v.2 v.3 v.4 v.5 v.6) layer fun x0_0=>Cnd (x0_0<(0:Int)) (K []) (Jn1 (fun x1_0=>Lp2 (fun x2_0 x2_1 Y2_2=>v.6.length≤(9223372036854775807:Nat)→Cnd (x2_1<(↑v.6.length:Int)) (((0:Int)≤x2_1∧x2_1<(↑v.6.length:Int))∧ ∀y4,v.6[x2_1.toNat]? =some y4→Cnd (y4.2=layer) (Cnd (y4.1=but) (InI (x2_1+(1:Int))∧Y2_2 x2_0 (x2_1+(1:Int))) (Cnd (y4.5=(3:Int)) (InI (x2_1+(1:Int))∧Y2_2 x2_0 (x2_1+(1:Int))) (X_r14_Union x2_0 y4.6 fun x6_0=>InI (x2_1+(1:Int))∧Y2_2 x6_0 (x2_1+(1:Int))))) (InI (x2_1+(1:Int))∧Y2_2 x2_0 (x2_1+(1:Int)))) (K x2_0)) x1_0 (0:Int)) fun Y1_0=>((0:Int)≤x0_0∧x0_0<(↑v.5.length:Int))∧ ∀y2,v.5[x0_0.toNat]? =some y2→((0:Int)≤x0_0∧x0_0<(↑v.5.length:Int))∧ ∀y4,v.5[x0_0.toNat]? =some y4→(X_r14_Protected y4.6 now fun x6_0=>X_r14_later x6_0 now fun x7_0=>X_r14_Union [Spn.mk (0:Int) y2.4] x7_0 fun x8_0=>Y1_0 x8_0)∧X_r14_Protected y4.6 now fun x6_0=>(X_r14_later x6_0 now fun x7_0=>X_r14_Union [Spn.mk (0:Int) y2.4] x7_0 fun x8_0=>Y1_0 x8_0)∧X_r14_later x6_0 now fun x7_0=>X_r14_Union [Spn.mk (0:Int) y2.4] x7_0 fun x8_0=>Y1_0 x8_0)
def q81 (v:Envt) (layer:ByteArray) (but:ByteArray) (now:Int) (K:List (Spn)→Prop):Prop:=j2t q1v q80 q21 q8z v layer but now K
abbrev q64:Type:=List (Spn)→List (Spn)→(List (Spn)→Prop)→Prop
def j2u (X_r14_Set:q3w) (X_r14_Spans:q1s) (a:List (Spn)) (b:List (Spn)) (K:List (Spn)→Prop):Prop:=X_r14_Set a fun x0_0=>X_r14_Set b fun x1_0=>Lp2 (fun x2_0 x2_1 Y2_2=>x2_1.length≤(9223372036854775807:Nat)→Cnd (x2_0<(↑x2_1.length:Int)) (((0:Int)≤x2_0∧x2_0<(↑x2_1.length:Int))∧ ∀y4,x2_1[x2_0.toNat]? =some y4→Cnd (y4=true) (((0:Int)≤x2_0∧x2_0<(↑x1_0.length:Int))∧ ∀y6,x1_0[x2_0.toNat]? =some y6→((0:Int)≤x2_0∧x2_0<(↑x2_1.length:Int))∧ ∀y8,x2_1[x2_0.toNat]? =some y8→InI (x2_0+(1:Int))∧Y2_2 (x2_0+(1:Int)) (x2_1.set x2_0.toNat (match decide (y6=true) with|true=>false|false=>true))) (((0:Int)≤x2_0∧x2_0<(↑x2_1.length:Int))∧ ∀y6,x2_1[x2_0.toNat]? =some y6→InI (x2_0+(1:Int))∧Y2_2 (x2_0+(1:Int)) (x2_1.set x2_0.toNat false))) (X_r14_Spans x2_1 fun x4_0=>K x4_0)) (0:Int) x0_0
def q4f (a:List (Spn)) (b:List (Spn)) (K:List (Spn)→Prop):Prop:=j2u q2n q1b a b K
abbrev j0i:Type:=Envt→ByteArray→Int→(List (Spn)→Int→Prop)→Prop
def j7d (X_r14_time:j0h) (X_r14_LayerOf:q2b) (X_r14_Taken:z5m) (X_r14_Minus:q64) (v:Envt) (layer:ByteArray) (now:Int) (K:List (Spn)→Int→Prop):Prop:=X_r14_time now fun x0_0=>Cnd (x0_0=true) (X_r14_LayerOf (Envt.mk (Sett.mk v.1.1 v.1.2 v.1.3) v.2 v.3 v.4 v.5 v.6) layer fun x1_0=>Cnd (x1_0<(0:Int)) (K [] (11:Int)) (X_r14_Taken (Envt.mk (Sett.mk v.1.1 v.1.2 v.1.3) v.2 v.3 v.4 v.5 v.6) layer (ByteArray.mk (Array.mk [])) now fun x2_0=>X_r14_Minus [Spn.mk (0:Int) (10000:Int)] x2_0 fun x3_0=>K x3_0 (0:Int))) (K [] (3:Int))
def z1c (v:Envt) (layer:ByteArray) (now:Int) (K:List (Spn)→Int→Prop):Prop:=j7d q8y q1v q81 q4f v layer now K
abbrev z5n:Type:=List (Spn)→Int→(List (Spn)→Prop)→Prop
def j2v (X_r14_Set:q3w) (X_r14_Spans:q1s) (l:List (Spn)) (n:Int) (K:List (Spn)→Prop):Prop:=X_r14_Set l fun x0_0=>Lp3 (fun x1_0 x1_1 x1_2 Y1_3=>x1_2.length≤(9223372036854775807:Nat)→Cnd (x1_1<(↑x1_2.length:Int)) (((0:Int)≤x1_1∧x1_1<(↑x1_2.length:Int))∧ ∀y3,x1_2[x1_1.toNat]? =some y3→Cnd (y3=true) (Cnd (x1_0≤(0:Int)) (((0:Int)≤x1_1∧x1_1<(↑x1_2.length:Int))∧ ∀y5,x1_2[x1_1.toNat]? =some y5→InI (x1_1+(1:Int))∧Y1_3 x1_0 (x1_1+(1:Int)) (x1_2.set x1_1.toNat false)) (((0:Int)≤x1_1∧x1_1<(↑x1_2.length:Int))∧ ∀y5,x1_2[x1_1.toNat]? =some y5→Cnd (y5=true) (InI (x1_0 - (1:Int))∧InI (x1_1+(1:Int))∧Y1_3 (x1_0 - (1:Int)) (x1_1+(1:Int)) x1_2) (InI (x1_1+(1:Int))∧Y1_3 x1_0 (x1_1+(1:Int)) x1_2))) (((0:Int)≤x1_1∧x1_1<(↑x1_2.length:Int))∧ ∀y5,x1_2[x1_1.toNat]? =some y5→Cnd (y5=true) (InI (x1_0 - (1:Int))∧InI (x1_1+(1:Int))∧Y1_3 (x1_0 - (1:Int)) (x1_1+(1:Int)) x1_2) (InI (x1_1+(1:Int))∧Y1_3 x1_0 (x1_1+(1:Int)) x1_2))) (X_r14_Spans x1_2 fun x3_0=>K x3_0)) n (0:Int) x0_0
def q82 (l:List (Spn)) (n:Int) (K:List (Spn)→Prop):Prop:=j2v q2n q1b l n K
abbrev q12:Type:=ByteArray→(Bool→Prop)→Prop
def q1g (s:ByteArray) (K:Bool→Prop):Prop:=s.size≤(9223372036854775807:Nat)∧K (Go.Lib.validD s.data.toList)
abbrev q1a:Type:=ByteArray→(Bool→Prop)→Prop
def j0j (X_utf8_ValidString:q12) (s:ByteArray) (K:Bool→Prop):Prop:=Cnd ((200:Int)<(↑s.size:Int)) (K false) (X_utf8_ValidString s fun x0_0=>Cnd (x0_0=true) (Lp1 (fun x1_0 Y1_1=>Cnd (x1_0<(↑s.size:Int)) (((0:Int)≤x1_0∧x1_0<(↑s.size:Int))∧ ∀b2,s[x1_0.toNat]? =some b2→Cnd ((↑b2.toNat:Int)<(32:Int)) (K false) (((0:Int)≤x1_0∧x1_0<(↑s.size:Int))∧ ∀b4,s[x1_0.toNat]? =some b4→Cnd ((↑b4.toNat:Int)=(127:Int)) (K false) (InI (x1_0+(1:Int))∧Y1_1 (x1_0+(1:Int))))) (K true)) (0:Int)) (K false))
def q0x (s:ByteArray) (K:Bool→Prop):Prop:=j0j q1g s K
abbrev j4m:Type:=ByteArray→(Bool→Prop)→Prop
def z1u (s:ByteArray) (K:Bool→Prop):Prop:=Lp1 (fun x0_0 Y0_1=>Cnd (x0_0<(↑s.size:Int)) (((0:Int)≤x0_0∧x0_0<(↑s.size:Int))∧ ∀b1,s[x0_0.toNat]? =some b1→Cnd ((97:Int)≤(↑b1.toNat:Int)) (Cnd ((↑b1.toNat:Int)≤(122:Int)) (InI (x0_0+(1:Int))∧Y0_1 (x0_0+(1:Int))) (Cnd (x0_0=(0:Int)) (K false) (Cnd ((48:Int)≤(↑b1.toNat:Int)) (Cnd ((↑b1.toNat:Int)≤(57:Int)) (InI (x0_0+(1:Int))∧Y0_1 (x0_0+(1:Int))) (Cnd ((↑b1.toNat:Int)=(45:Int)) (InI (x0_0+(1:Int))∧Y0_1 (x0_0+(1:Int))) (Cnd ((↑b1.toNat:Int)=(95:Int)) (InI (x0_0+(1:Int))∧Y0_1 (x0_0+(1:Int))) (K false)))) (Cnd ((↑b1.toNat:Int)=(45:Int)) (InI (x0_0+(1:Int))∧Y0_1 (x0_0+(1:Int))) (Cnd ((↑b1.toNat:Int)=(95:Int)) (InI (x0_0+(1:Int))∧Y0_1 (x0_0+(1:Int))) (K false)))))) (Cnd (x0_0=(0:Int)) (K false) (Cnd ((48:Int)≤(↑b1.toNat:Int)) (Cnd ((↑b1.toNat:Int)≤(57:Int)) (InI (x0_0+(1:Int))∧Y0_1 (x0_0+(1:Int))) (Cnd ((↑b1.toNat:Int)=(45:Int)) (InI (x0_0+(1:Int))∧Y0_1 (x0_0+(1:Int))) (Cnd ((↑b1.toNat:Int)=(95:Int)) (InI (x0_0+(1:Int))∧Y0_1 (x0_0+(1:Int))) (K false)))) (Cnd ((↑b1.toNat:Int)=(45:Int)) (InI (x0_0+(1:Int))∧Y0_1 (x0_0+(1:Int))) (Cnd ((↑b1.toNat:Int)=(95:Int)) (InI (x0_0+(1:Int))∧Y0_1 (x0_0+(1:Int))) (K false)))))) (K (decide ((0:Int)<(↑s.size:Int))))) (0:Int)
abbrev z0w:Type:=(List (ByteArray)→Prop)→Prop
def q4g (K:List (ByteArray)→Prop):Prop:=K [ByteArray.mk (Array.mk [97,110,100]),ByteArray.mk (Array.mk [97,114,109,115]),ByteArray.mk (Array.mk [97,116,116,114,105,98,117,116,101]),ByteArray.mk (Array.mk [98,111,111,108]),ByteArray.mk (Array.mk [99,108,97,105,109,115]),ByteArray.mk (Array.mk [99,111,110,116,97,105,110,115]),ByteArray.mk (Array.mk [99,111,111,108]),ByteArray.mk (Array.mk [99,111,111,108,105,110,103]),ByteArray.mk (Array.mk [100,101,102,97,117,108,116]),ByteArray.mk (Array.mk [100,114,97,102,116]),ByteArray.mk (Array.mk [101,110,100,115]),ByteArray.mk (Array.mk [101,120,99,108,117,100,101]),ByteArray.mk (Array.mk [101,120,105,115,116,115]),ByteArray.mk (Array.mk [101,120,112,101,114,105,109,101,110,116]),ByteArray.mk (Array.mk [102,97,108,115,101]),ByteArray.mk (Array.mk [102,108,97,103]),ByteArray.mk (Array.mk [104,111,108,100,111,117,116]),ByteArray.mk (Array.mk [105,110]),ByteArray.mk (Array.mk [105,110,99,108,117,100,101]),ByteArray.mk (Array.mk [105,115]),ByteArray.mk (Array.mk [108,97,121,101,114]),ByteArray.mk (Array.mk [108,105,115,116]),ByteArray.mk (Array.mk [109,101,109,98,101,114]),ByteArray.mk (Array.mk [110,101,101,100,115]),ByteArray.mk (Array.mk [110,111,116]),ByteArray.mk (Array.mk [110,117,109,98,101,114]),ByteArray.mk (Array.mk [111,102,102]),ByteArray.mk (Array.mk [111,110]),ByteArray.mk (Array.mk [111,114]),ByteArray.mk (Array.mk [114,117,108,101]),ByteArray.mk (Array.mk [114,117,110,110,105,110,103]),ByteArray.mk (Array.mk [115,97,108,116]),ByteArray.mk (Array.mk [115,101,103,109,101,110,116]),ByteArray.mk (Array.mk [115,101,114,118,101]),ByteArray.mk (Array.mk [115,101,116,116,105,110,103,115]),ByteArray.mk (Array.mk [115,112,108,105,116]),ByteArray.mk (Array.mk [115,116,97,114,116,115]),ByteArray.mk (Array.mk [115,116,111,112,112,101,100]),ByteArray.mk (Array.mk [116,97,114,103,101,116]),ByteArray.mk (Array.mk [116,101,120,116]),ByteArray.mk (Array.mk [116,111]),ByteArray.mk (Array.mk [116,114,117,101]),ByteArray.mk (Array.mk [117,110,116,105,108]),ByteArray.mk (Array.mk [118,97,114,105,97,116,105,111,110,115]),ByteArray.mk (Array.mk [118,101,114,115,105,111,110]),ByteArray.mk (Array.mk [119,104,101,110])]
abbrev q03:Type:=ByteArray→(Bool→Prop)→Prop
def v1w (X_r1_Word:j4m) (X_r1_Reserved:z0w) (s:ByteArray) (K:Bool→Prop):Prop:=X_r1_Word s fun x0_0=>Cnd (x0_0=true) (Cnd ((32:Int)<(↑s.size:Int)) (K false) (X_r1_Reserved fun x1_0=>Lp1 (fun x2_0 Y2_1=>x1_0.length≤(9223372036854775807:Nat)→Cnd (x2_0<(↑x1_0.length:Int)) (((0:Int)≤x2_0∧x2_0<(↑x1_0.length:Int))∧ ∀y4,x1_0[x2_0.toNat]? =some y4→Cnd (y4=s) (K false) (InI (x2_0+(1:Int))∧Y2_1 (x2_0+(1:Int)))) (K true)) (0:Int))) (K false)
def q0z (s:ByteArray) (K:Bool→Prop):Prop:=v1w z1u q4g s K
abbrev z0x:Type:=Sett→(Int→Prop)→Prop
def z5o (X_r1_Valid:q1a) (X_r1_Key:q03) (s:Sett) (K:Int→Prop):Prop:=X_r1_Valid s.1 fun x0_0=>Cnd (x0_0=true) (Cnd (s.3<(0:Int)) (K (3:Int)) (Cnd ((10000:Int)<s.3) (K (3:Int)) (X_r1_Key s.2 fun x1_0=>Cnd (x1_0=true) (K (0:Int)) (Cnd (s.2=ByteArray.mk (Array.mk [])) (Cnd (s.3=(0:Int)) (K (0:Int)) (K (6:Int))) (K (6:Int)))))) (K (2:Int))
def q53 (s:Sett) (K:Int→Prop):Prop:=z5o q0x q0z s K
abbrev z0y:Type:=List (Decl)→(Int→Prop)→Prop
def z5p (X_r1_Key:q03) (l:List (Decl)) (K:Int→Prop):Prop:=l.length≤(9223372036854775807:Nat)→Cnd ((30:Int)<(↑l.length:Int)) (K (5:Int)) (Lp1 (fun x1_0 Y1_1=>l.length≤(9223372036854775807:Nat)→Cnd (x1_0<(↑l.length:Int)) (((0:Int)≤x1_0∧x1_0<(↑l.length:Int))∧ ∀y3,l[x1_0.toNat]? =some y3→X_r1_Key y3.1 fun x5_0=>Cnd (x5_0=true) (((0:Int)≤x1_0∧x1_0<(↑l.length:Int))∧ ∀y6,l[x1_0.toNat]? =some y6→X_r1_Key y6.2 fun x8_0=>Cnd (x8_0=true) (((0:Int)≤x1_0∧x1_0<(↑l.length:Int))∧ ∀y9,l[x1_0.toNat]? =some y9→Cnd (y9.2=ByteArray.mk (Array.mk [107,101,121])) (K (6:Int)) (((0:Int)≤x1_0∧x1_0<(↑l.length:Int))∧ ∀y11,l[x1_0.toNat]? =some y11→Cnd (y11.3<(1:Int)) (K (7:Int)) (((0:Int)≤x1_0∧x1_0<(↑l.length:Int))∧ ∀y13,l[x1_0.toNat]? =some y13→Cnd ((5:Int)<y13.3) (K (7:Int)) (Cnd ((0:Int)<x1_0) (((0:Int)≤x1_0∧x1_0<(↑l.length:Int))∧ ∀y15,l[x1_0.toNat]? =some y15→InI (x1_0 - (1:Int))∧((0:Int)≤x1_0 - (1:Int)∧x1_0 - (1:Int)<(↑l.length:Int))∧ ∀y17,l[(x1_0 - (1:Int)).toNat]? =some y17→Cnd (Lk.blt y15.1 y17.1) (K (9:Int)) (((0:Int)≤x1_0∧x1_0<(↑l.length:Int))∧ ∀y19,l[x1_0.toNat]? =some y19→InI (x1_0 - (1:Int))∧((0:Int)≤x1_0 - (1:Int)∧x1_0 - (1:Int)<(↑l.length:Int))∧ ∀y21,l[(x1_0 - (1:Int)).toNat]? =some y21→Cnd (y19.1=y21.1) (((0:Int)≤x1_0∧x1_0<(↑l.length:Int))∧ ∀y23,l[x1_0.toNat]? =some y23→InI (x1_0 - (1:Int))∧((0:Int)≤x1_0 - (1:Int)∧x1_0 - (1:Int)<(↑l.length:Int))∧ ∀y25,l[(x1_0 - (1:Int)).toNat]? =some y25→Cnd (Lk.blt y25.2 y23.2) (InI (x1_0+(1:Int))∧Y1_1 (x1_0+(1:Int))) (K (9:Int))) (InI (x1_0+(1:Int))∧Y1_1 (x1_0+(1:Int))))) (InI (x1_0+(1:Int))∧Y1_1 (x1_0+(1:Int))))))) (K (6:Int))) (K (6:Int))) (K (0:Int))) (0:Int))
def q54 (l:List (Decl)) (K:Int→Prop):Prop:=z5p q0z l K
abbrev q5l:Type:=List (ByteArray)→(Int→Prop)→Prop
def z71 (X_r1_Valid:q1a) (l:List (ByteArray)) (K:Int→Prop):Prop:=l.length≤(9223372036854775807:Nat)→Cnd ((40:Int)<(↑l.length:Int)) (K (5:Int)) (Lp1 (fun x1_0 Y1_1=>l.length≤(9223372036854775807:Nat)→Cnd (x1_0<(↑l.length:Int)) (((0:Int)≤x1_0∧x1_0<(↑l.length:Int))∧ ∀y3,l[x1_0.toNat]? =some y3→Cnd (y3=ByteArray.mk (Array.mk [])) (K (2:Int)) (((0:Int)≤x1_0∧x1_0<(↑l.length:Int))∧ ∀y5,l[x1_0.toNat]? =some y5→X_r1_Valid y5 fun x7_0=>Cnd (x7_0=true) (Cnd ((0:Int)<x1_0) (((0:Int)≤x1_0∧x1_0<(↑l.length:Int))∧ ∀y8,l[x1_0.toNat]? =some y8→InI (x1_0 - (1:Int))∧((0:Int)≤x1_0 - (1:Int)∧x1_0 - (1:Int)<(↑l.length:Int))∧ ∀y10,l[(x1_0 - (1:Int)).toNat]? =some y10→Cnd (Lk.blt y10 y8) (InI (x1_0+(1:Int))∧Y1_1 (x1_0+(1:Int))) (K (9:Int))) (InI (x1_0+(1:Int))∧Y1_1 (x1_0+(1:Int)))) (K (2:Int)))) (K (0:Int))) (0:Int))
def q3g (l:List (ByteArray)) (K:Int→Prop):Prop:=z71 q0x l K
abbrev j4n:Type:=Ex→(Bool→Prop)→Prop
def z1v (e:Ex) (K:Bool→Prop):Prop:=Cnd (e.1=(0:Int)) (Cnd (e.2=ByteArray.mk (Array.mk [])) (Cnd (e.3=ByteArray.mk (Array.mk [])) (e.4.length≤(9223372036854775807:Nat)→Cnd ((↑e.4.length:Int)=(0:Int)) (e.5.length≤(9223372036854775807:Nat)→K (decide ((↑e.5.length:Int)=(0:Int)))) (K false)) (K false)) (K false)) (K false)
abbrev z5q:Type:=Ex→(Bool→Prop)→Prop
def j2w (X_r6_IsTest:q11) (e:Ex) (K:Bool→Prop):Prop:=e.5.length≤(9223372036854775807:Nat)→e.4.length≤(9223372036854775807:Nat)→Jn2 (fun x2_0 x2_1=>X_r6_IsTest e.1 fun x3_0=>Cnd (x2_0=true) (Cnd (x2_1=true) (Cnd (x3_0=true) (Cnd (x3_0=true) (K true) (Cnd (e.1=(5:Int)) (K true) (K (decide (e.3=ByteArray.mk (Array.mk [])))))) (Cnd (e.2=ByteArray.mk (Array.mk [])) (Cnd (x3_0=true) (K true) (Cnd (e.1=(5:Int)) (K true) (K (decide (e.3=ByteArray.mk (Array.mk [])))))) (K false))) (K false)) (K false)) fun Y2_0=>Cnd (e.1=(2:Int)) (e.5.length≤(9223372036854775807:Nat)→Y2_0 (decide ((2:Int)≤(↑e.5.length:Int))) (decide ((↑e.4.length:Int)=(0:Int)))) (Cnd (e.1=(3:Int)) (e.5.length≤(9223372036854775807:Nat)→Y2_0 (decide ((2:Int)≤(↑e.5.length:Int))) (decide ((↑e.4.length:Int)=(0:Int)))) (Cnd (e.1=(4:Int)) (e.5.length≤(9223372036854775807:Nat)→Y2_0 (decide ((↑e.5.length:Int)=(1:Int))) (decide ((↑e.4.length:Int)=(0:Int)))) (Cnd (e.1=(8:Int)) (e.4.length≤(9223372036854775807:Nat)→Y2_0 (decide ((↑e.5.length:Int)=(0:Int))) (decide ((0:Int)<(↑e.4.length:Int)))) (X_r6_IsTest e.1 fun x3_0=>Cnd (x3_0=true) (Cnd (e.1=(6:Int)) (Y2_0 (decide ((↑e.5.length:Int)=(0:Int))) (decide ((↑e.4.length:Int)=(0:Int)))) (e.4.length≤(9223372036854775807:Nat)→Y2_0 (decide ((↑e.5.length:Int)=(0:Int))) (decide ((↑e.4.length:Int)=(1:Int))))) (Y2_0 (decide ((↑e.5.length:Int)=(0:Int))) (decide ((↑e.4.length:Int)=(0:Int))))))))
def q83 (e:Ex) (K:Bool→Prop):Prop:=j2w q1f e K
abbrev j0k:Type:=Val→(Bool→Prop)→Prop
def q55 (v:Val) (K:Bool→Prop):Prop:=Cnd (v.1=(1:Int)) (Cnd (v.1=(3:Int)) (Cnd (v.1=(5:Int)) (K true) (v.4.length≤(9223372036854775807:Nat)→K (decide ((↑v.4.length:Int)=(0:Int))))) (Cnd (v.1=(4:Int)) (Cnd (v.1=(5:Int)) (K true) (v.4.length≤(9223372036854775807:Nat)→K (decide ((↑v.4.length:Int)=(0:Int))))) (Cnd (v.3=ByteArray.mk (Array.mk [])) (Cnd (v.1=(5:Int)) (K true) (v.4.length≤(9223372036854775807:Nat)→K (decide ((↑v.4.length:Int)=(0:Int))))) (K false)))) (Cnd (v.1=(3:Int)) (Cnd (v.1=(2:Int)) (Cnd (v.1=(5:Int)) (K true) (v.4.length≤(9223372036854775807:Nat)→K (decide ((↑v.4.length:Int)=(0:Int))))) (Cnd (v.2=(0:Int)) (Cnd (v.1=(5:Int)) (K true) (v.4.length≤(9223372036854775807:Nat)→K (decide ((↑v.4.length:Int)=(0:Int))))) (K false))) (Cnd (v.1=(2:Int)) (Cnd (v.1=(4:Int)) (Cnd (v.1=(5:Int)) (K true) (v.4.length≤(9223372036854775807:Nat)→K (decide ((↑v.4.length:Int)=(0:Int))))) (Cnd (v.3=ByteArray.mk (Array.mk [])) (Cnd (v.1=(5:Int)) (K true) (v.4.length≤(9223372036854775807:Nat)→K (decide ((↑v.4.length:Int)=(0:Int))))) (K false))) (Cnd (v.2=(0:Int)) (Cnd (v.1=(4:Int)) (Cnd (v.1=(5:Int)) (K true) (v.4.length≤(9223372036854775807:Nat)→K (decide ((↑v.4.length:Int)=(0:Int))))) (Cnd (v.3=ByteArray.mk (Array.mk [])) (Cnd (v.1=(5:Int)) (K true) (v.4.length≤(9223372036854775807:Nat)→K (decide ((↑v.4.length:Int)=(0:Int))))) (K false))) (K false))))
abbrev q6u:Type:=ByteArray→(Int→Int→Prop)→Prop
def q1k (s:ByteArray) (K:Int→Int→Prop):Prop:=Jn1 (fun x0_0=>Lp1 (fun x1_0 Y1_1=>Cnd (x1_0<(↑x0_0.size:Int)) (((0:Int)≤x1_0∧x1_0<(↑x0_0.size:Int))∧ ∀b2,x0_0[x1_0.toNat]? =some b2→Cnd ((↑b2.toNat:Int)<(48:Int)) (K (0:Int) (1:Int)) (((0:Int)≤x1_0∧x1_0<(↑x0_0.size:Int))∧ ∀b4,x0_0[x1_0.toNat]? =some b4→Cnd ((57:Int)<(↑b4.toNat:Int)) (K (0:Int) (1:Int)) (InI (x1_0+(1:Int))∧Y1_1 (x1_0+(1:Int))))) (Cnd (x0_0=ByteArray.mk (Array.mk [])) (K (0:Int) (1:Int)) (((0:Int)≤(0:Int)∧(0:Int)<(↑x0_0.size:Int))∧ ∀b2,x0_0[Int.toNat (0:Int)]? =some b2→Cnd ((↑b2.toNat:Int)=(48:Int)) (Cnd (s=ByteArray.mk (Array.mk [48])) (Cnd ((13:Int)<(↑x0_0.size:Int)) (K (0:Int) (3:Int)) (Lp2 (fun x4_0 x4_1 Y4_2=>Cnd (x4_1<(↑x0_0.size:Int)) (InI ((10:Int)*x4_0)∧((0:Int)≤x4_1∧x4_1<(↑x0_0.size:Int))∧ ∀b5,x0_0[x4_1.toNat]? =some b5→InI (Go.IntKind.u8.wrap ((↑b5.toNat:Int) - (48:Int)))∧InI ((10:Int)*x4_0+Go.IntKind.u8.wrap ((↑b5.toNat:Int) - (48:Int)))∧InI (x4_1+(1:Int))∧Y4_2 ((10:Int)*x4_0+Go.IntKind.u8.wrap ((↑b5.toNat:Int) - (48:Int))) (x4_1+(1:Int))) (Cnd ((1099511627776:Int)<x4_0) (K (0:Int) (3:Int)) (Cnd ((↑x0_0.size:Int)<(↑s.size:Int)) (InI ((0:Int) - x4_0)∧K ((0:Int) - x4_0) (0:Int)) (K x4_0 (0:Int))))) (0:Int) (0:Int))) (K (0:Int) (1:Int))) (Cnd ((13:Int)<(↑x0_0.size:Int)) (K (0:Int) (3:Int)) (Lp2 (fun x4_0 x4_1 Y4_2=>Cnd (x4_1<(↑x0_0.size:Int)) (InI ((10:Int)*x4_0)∧((0:Int)≤x4_1∧x4_1<(↑x0_0.size:Int))∧ ∀b5,x0_0[x4_1.toNat]? =some b5→InI (Go.IntKind.u8.wrap ((↑b5.toNat:Int) - (48:Int)))∧InI ((10:Int)*x4_0+Go.IntKind.u8.wrap ((↑b5.toNat:Int) - (48:Int)))∧InI (x4_1+(1:Int))∧Y4_2 ((10:Int)*x4_0+Go.IntKind.u8.wrap ((↑b5.toNat:Int) - (48:Int))) (x4_1+(1:Int))) (Cnd ((1099511627776:Int)<x4_0) (K (0:Int) (3:Int)) (Cnd ((↑x0_0.size:Int)<(↑s.size:Int)) (InI ((0:Int) - x4_0)∧K ((0:Int) - x4_0) (0:Int)) (K x4_0 (0:Int))))) (0:Int) (0:Int)))))) (0:Int)) fun Y0_0=>Cnd ((0:Int)<(↑s.size:Int)) (((0:Int)≤(0:Int)∧(0:Int)<(↑s.size:Int))∧ ∀b1,s[Int.toNat (0:Int)]? =some b1→Cnd ((↑b1.toNat:Int)=(45:Int)) (((0:Int)≤(1:Int)∧(1:Int)≤(↑s.size:Int)∧(↑s.size:Int)≤(↑s.size:Int))∧Y0_0 (s.extract (Int.toNat (1:Int)) (↑s.size:Int).toNat)) (Y0_0 s)) (Y0_0 s)
abbrev z4l:Type:=ByteArray→(A3→Bool→Prop)→Prop
def j0l (X_r1_ParseNumber:q6u) (s:ByteArray) (K:A3→Bool→Prop):Prop:=LpH (fun (x0_0:Int×Int×Int×Int×Int×Int×Int×Int×Unit) Y0_1=>Cnd (x0_0.snd.fst<(3:Int)) (Lp1 (fun x1_0 Y1_1=>Cnd (x1_0<(↑s.size:Int)) (((0:Int)≤x1_0∧x1_0<(↑s.size:Int))∧ ∀b2,s[x1_0.toNat]? =some b2→Cnd ((↑b2.toNat:Int)=(46:Int)) (((0:Int)≤x0_0.fst∧x0_0.fst≤x1_0∧x1_0≤(↑s.size:Int))∧X_r1_ParseNumber (s.extract x0_0.fst.toNat x1_0.toNat) fun x4_0 x4_1=>Cnd (x4_1=(0:Int)) (Cnd (x4_0<(0:Int)) (K ((0:Int),(0:Int),(0:Int)) false) (Cnd ((999999:Int)<x4_0) (K ((0:Int),(0:Int),(0:Int)) false) (Cnd (decide (x0_0.snd.fst<(2:Int))=decide (x1_0<(↑s.size:Int))) (((0:Int)≤x0_0.snd.fst∧x0_0.snd.fst<(↑(3:Nat):Int))∧((True∧(x0_0.snd.fst=(↑(nat_lit 0):Int)→InI (x1_0+(1:Int))∧InI (x0_0.snd.fst+(1:Int))∧Y0_1 (x1_0+(1:Int),x0_0.snd.fst+(1:Int),x4_0,x0_0.snd.snd.snd.fst,x0_0.snd.snd.snd.snd.fst,x0_0.snd.snd.snd.snd.snd.fst,x0_0.snd.snd.snd.snd.snd.snd.fst,x0_0.snd.snd.snd.snd.snd.snd.snd.fst,())))∧(x0_0.snd.fst=(↑(nat_lit 1):Int)→InI (x1_0+(1:Int))∧InI (x0_0.snd.fst+(1:Int))∧Y0_1 (x1_0+(1:Int),x0_0.snd.fst+(1:Int),x0_0.snd.snd.fst,x4_0,x0_0.snd.snd.snd.snd.fst,x0_0.snd.snd.snd.snd.snd.fst,x0_0.snd.snd.snd.snd.snd.snd.fst,x0_0.snd.snd.snd.snd.snd.snd.snd.fst,())))∧(x0_0.snd.fst=(↑(nat_lit 2):Int)→InI (x1_0+(1:Int))∧InI (x0_0.snd.fst+(1:Int))∧Y0_1 (x1_0+(1:Int),x0_0.snd.fst+(1:Int),x0_0.snd.snd.fst,x0_0.snd.snd.snd.fst,x4_0,x0_0.snd.snd.snd.snd.snd.fst,x0_0.snd.snd.snd.snd.snd.snd.fst,x0_0.snd.snd.snd.snd.snd.snd.snd.fst,()))) (K ((0:Int),(0:Int),(0:Int)) false)))) (K ((0:Int),(0:Int),(0:Int)) false)) (InI (x1_0+(1:Int))∧Y1_1 (x1_0+(1:Int)))) (((0:Int)≤x0_0.fst∧x0_0.fst≤x1_0∧x1_0≤(↑s.size:Int))∧X_r1_ParseNumber (s.extract x0_0.fst.toNat x1_0.toNat) fun x2_0 x2_1=>Cnd (x2_1=(0:Int)) (Cnd (x2_0<(0:Int)) (K ((0:Int),(0:Int),(0:Int)) false) (Cnd ((999999:Int)<x2_0) (K ((0:Int),(0:Int),(0:Int)) false) (Cnd (decide (x0_0.snd.fst<(2:Int))=decide (x1_0<(↑s.size:Int))) (((0:Int)≤x0_0.snd.fst∧x0_0.snd.fst<(↑(3:Nat):Int))∧((True∧(x0_0.snd.fst=(↑(nat_lit 0):Int)→InI (x1_0+(1:Int))∧InI (x0_0.snd.fst+(1:Int))∧Y0_1 (x1_0+(1:Int),x0_0.snd.fst+(1:Int),x2_0,x0_0.snd.snd.snd.fst,x0_0.snd.snd.snd.snd.fst,x0_0.snd.snd.snd.snd.snd.fst,x0_0.snd.snd.snd.snd.snd.snd.fst,x0_0.snd.snd.snd.snd.snd.snd.snd.fst,())))∧(x0_0.snd.fst=(↑(nat_lit 1):Int)→InI (x1_0+(1:Int))∧InI (x0_0.snd.fst+(1:Int))∧Y0_1 (x1_0+(1:Int),x0_0.snd.fst+(1:Int),x0_0.snd.snd.fst,x2_0,x0_0.snd.snd.snd.snd.fst,x0_0.snd.snd.snd.snd.snd.fst,x0_0.snd.snd.snd.snd.snd.snd.fst,x0_0.snd.snd.snd.snd.snd.snd.snd.fst,())))∧(x0_0.snd.fst=(↑(nat_lit 2):Int)→InI (x1_0+(1:Int))∧InI (x0_0.snd.fst+(1:Int))∧Y0_1 (x1_0+(1:Int),x0_0.snd.fst+(1:Int),x0_0.snd.snd.fst,x0_0.snd.snd.snd.fst,x2_0,x0_0.snd.snd.snd.snd.snd.fst,x0_0.snd.snd.snd.snd.snd.snd.fst,x0_0.snd.snd.snd.snd.snd.snd.snd.fst,()))) (K ((0:Int),(0:Int),(0:Int)) false)))) (K ((0:Int),(0:Int),(0:Int)) false))) x0_0.fst) (K (x0_0.snd.snd.fst,x0_0.snd.snd.snd.fst,x0_0.snd.snd.snd.snd.fst) true)) ((0:Int),(0:Int),(0:Int),(0:Int),(0:Int),(0:Int),(0:Int),(0:Int),())
def q56 (s:ByteArray) (K:A3→Bool→Prop):Prop:=j0l q1k s K
abbrev j4o:Type:=List (ByteArray)→(Int→Prop)→Prop
def j4p (X_r1_Valid:q1a) (l:List (ByteArray)) (K:Int→Prop):Prop:=l.length≤(9223372036854775807:Nat)→Cnd ((20:Int)<(↑l.length:Int)) (K (5:Int)) (Lp1 (fun x1_0 Y1_1=>l.length≤(9223372036854775807:Nat)→Cnd (x1_0<(↑l.length:Int)) (((0:Int)≤x1_0∧x1_0<(↑l.length:Int))∧ ∀y3,l[x1_0.toNat]? =some y3→X_r1_Valid y3 fun x5_0=>Cnd (x5_0=true) (InI (x1_0+(1:Int))∧Y1_1 (x1_0+(1:Int))) (K (2:Int))) (Lp1 (fun x3_0 Y3_1=>l.length≤(9223372036854775807:Nat)→Cnd (x3_0<(↑l.length:Int)) (((0:Int)≤x3_0∧x3_0<(↑l.length:Int))∧ ∀y5,l[x3_0.toNat]? =some y5→InI (x3_0 - (1:Int))∧((0:Int)≤x3_0 - (1:Int)∧x3_0 - (1:Int)<(↑l.length:Int))∧ ∀y7,l[(x3_0 - (1:Int)).toNat]? =some y7→Cnd (Lk.blt y7 y5) (InI (x3_0+(1:Int))∧Y3_1 (x3_0+(1:Int))) (K (9:Int))) (K (0:Int))) (1:Int))) (0:Int))
def q96 (l:List (ByteArray)) (K:Int→Prop):Prop:=j4p q0x l K
abbrev q7j:Type:=Val→(Int→Prop)→Prop
def j0m (X_r3_shape:j0k) (X_r1_Valid:q1a) (X_r3_parts:z4l) (X_r3_list:j4o) (v:Val) (K:Int→Prop):Prop:=Cnd (v.1<(1:Int)) (K (7:Int)) (Cnd ((5:Int)<v.1) (K (7:Int)) (X_r3_shape v fun x0_0=>Cnd (x0_0=true) (Cnd (v.1=(1:Int)) (Cnd (v.2=(0:Int)) (K (0:Int)) (Cnd (v.2=(1:Int)) (K (0:Int)) (K (3:Int)))) (Cnd (v.1=(2:Int)) (Cnd (v.2<(-1099511627776:Int)) (K (3:Int)) (Cnd ((1099511627776:Int)<v.2) (K (3:Int)) (K (0:Int)))) (Cnd (v.1=(3:Int)) (X_r1_Valid v.3 fun x1_0=>Cnd (x1_0=true) (K (0:Int)) (K (2:Int))) (Cnd (v.1=(4:Int)) (X_r3_parts v.3 fun (_:Int×Int×Int) x1_1=>Cnd (x1_1=true) (K (0:Int)) (K (1:Int))) (Cnd (v.1=(5:Int)) (X_r3_list v.4 fun x1_0=>K x1_0) (K (0:Int))))))) (K (15:Int))))
def q27 (v:Val) (K:Int→Prop):Prop:=j0m q55 q0x q56 q96 v K
abbrev j4q:Type:=Ex→(Int→Prop)→Prop
def w37 (X_r6_counts:z5q) (X_r6_IsTest:q11) (X_r1_Key:q03) (X_r3_Check:q7j) (e:Ex) (K:Int→Prop):Prop:=Cnd (e.1<(1:Int)) (K (7:Int)) (Cnd ((15:Int)<e.1) (K (7:Int)) (X_r6_counts (Ex.mk e.1 e.2 e.3 e.4 e.5) fun x0_0=>Cnd (x0_0=true) (e.5.length≤(9223372036854775807:Nat)→Cnd ((12:Int)<(↑e.5.length:Int)) (K (5:Int)) (e.4.length≤(9223372036854775807:Nat)→Cnd ((20:Int)<(↑e.4.length:Int)) (K (5:Int)) (Lp1 (fun x3_0 Y3_1=>e.5.length≤(9223372036854775807:Nat)→Cnd (x3_0<(↑e.5.length:Int)) (((0:Int)≤x3_0∧x3_0<(↑e.5.length:Int))∧ ∀y5,e.5[x3_0.toNat]? =some y5→Cnd (y5.1=e.1) (Cnd (e.1=(4:Int)) (InI (x3_0+(1:Int))∧Y3_1 (x3_0+(1:Int))) (K (15:Int))) (InI (x3_0+(1:Int))∧Y3_1 (x3_0+(1:Int)))) (X_r6_IsTest e.1 fun x5_0=>Cnd (x5_0=true) (X_r1_Key e.2 fun x6_0=>Cnd (x6_0=true) (X_r6_IsTest e.1 fun x7_0=>Cnd (x7_0=true) (X_r1_Key e.3 fun x8_0=>Cnd (x8_0=true) (Lp1 (fun x9_0 Y9_1=>e.4.length≤(9223372036854775807:Nat)→Cnd (x9_0<(↑e.4.length:Int)) (((0:Int)≤x9_0∧x9_0<(↑e.4.length:Int))∧ ∀y11,e.4[x9_0.toNat]? =some y11→X_r3_Check y11 fun x13_0=>Cnd (x13_0=(0:Int)) (InI (x9_0+(1:Int))∧Y9_1 (x9_0+(1:Int))) (K x13_0)) (Cnd (e.1=(9:Int)) (((0:Int)≤(0:Int)∧(0:Int)<(↑e.4.length:Int))∧ ∀y11,e.4[Int.toNat (0:Int)]? =some y11→Cnd (y11.1=(3:Int)) (K (0:Int)) (K (8:Int))) (Cnd (e.1=(10:Int)) (((0:Int)≤(0:Int)∧(0:Int)<(↑e.4.length:Int))∧ ∀y11,e.4[Int.toNat (0:Int)]? =some y11→Cnd (y11.1=(3:Int)) (K (0:Int)) (K (8:Int))) (Cnd (e.1=(11:Int)) (((0:Int)≤(0:Int)∧(0:Int)<(↑e.4.length:Int))∧ ∀y11,e.4[Int.toNat (0:Int)]? =some y11→Cnd (y11.1=(3:Int)) (K (0:Int)) (K (8:Int))) (K (0:Int)))))) (0:Int)) (K (6:Int))) (Cnd (e.1=(5:Int)) (X_r1_Key e.3 fun x8_0=>Cnd (x8_0=true) (Lp1 (fun x9_0 Y9_1=>e.4.length≤(9223372036854775807:Nat)→Cnd (x9_0<(↑e.4.length:Int)) (((0:Int)≤x9_0∧x9_0<(↑e.4.length:Int))∧ ∀y11,e.4[x9_0.toNat]? =some y11→X_r3_Check y11 fun x13_0=>Cnd (x13_0=(0:Int)) (InI (x9_0+(1:Int))∧Y9_1 (x9_0+(1:Int))) (K x13_0)) (Cnd (e.1=(9:Int)) (((0:Int)≤(0:Int)∧(0:Int)<(↑e.4.length:Int))∧ ∀y11,e.4[Int.toNat (0:Int)]? =some y11→Cnd (y11.1=(3:Int)) (K (0:Int)) (K (8:Int))) (Cnd (e.1=(10:Int)) (((0:Int)≤(0:Int)∧(0:Int)<(↑e.4.length:Int))∧ ∀y11,e.4[Int.toNat (0:Int)]? =some y11→Cnd (y11.1=(3:Int)) (K (0:Int)) (K (8:Int))) (Cnd (e.1=(11:Int)) (((0:Int)≤(0:Int)∧(0:Int)<(↑e.4.length:Int))∧ ∀y11,e.4[Int.toNat (0:Int)]? =some y11→Cnd (y11.1=(3:Int)) (K (0:Int)) (K (8:Int))) (K (0:Int)))))) (0:Int)) (K (6:Int))) (Lp1 (fun x8_0 Y8_1=>e.4.length≤(9223372036854775807:Nat)→Cnd (x8_0<(↑e.4.length:Int)) (((0:Int)≤x8_0∧x8_0<(↑e.4.length:Int))∧ ∀y10,e.4[x8_0.toNat]? =some y10→X_r3_Check y10 fun x12_0=>Cnd (x12_0=(0:Int)) (InI (x8_0+(1:Int))∧Y8_1 (x8_0+(1:Int))) (K x12_0)) (Cnd (e.1=(9:Int)) (((0:Int)≤(0:Int)∧(0:Int)<(↑e.4.length:Int))∧ ∀y10,e.4[Int.toNat (0:Int)]? =some y10→Cnd (y10.1=(3:Int)) (K (0:Int)) (K (8:Int))) (Cnd (e.1=(10:Int)) (((0:Int)≤(0:Int)∧(0:Int)<(↑e.4.length:Int))∧ ∀y10,e.4[Int.toNat (0:Int)]? =some y10→Cnd (y10.1=(3:Int)) (K (0:Int)) (K (8:Int))) (Cnd (e.1=(11:Int)) (((0:Int)≤(0:Int)∧(0:Int)<(↑e.4.length:Int))∧ ∀y10,e.4[Int.toNat (0:Int)]? =some y10→Cnd (y10.1=(3:Int)) (K (0:Int)) (K (8:Int))) (K (0:Int)))))) (0:Int)))) (K (6:Int))) (X_r6_IsTest e.1 fun x6_0=>Cnd (x6_0=true) (X_r1_Key e.3 fun x7_0=>Cnd (x7_0=true) (Lp1 (fun x8_0 Y8_1=>e.4.length≤(9223372036854775807:Nat)→Cnd (x8_0<(↑e.4.length:Int)) (((0:Int)≤x8_0∧x8_0<(↑e.4.length:Int))∧ ∀y10,e.4[x8_0.toNat]? =some y10→X_r3_Check y10 fun x12_0=>Cnd (x12_0=(0:Int)) (InI (x8_0+(1:Int))∧Y8_1 (x8_0+(1:Int))) (K x12_0)) (Cnd (e.1=(9:Int)) (((0:Int)≤(0:Int)∧(0:Int)<(↑e.4.length:Int))∧ ∀y10,e.4[Int.toNat (0:Int)]? =some y10→Cnd (y10.1=(3:Int)) (K (0:Int)) (K (8:Int))) (Cnd (e.1=(10:Int)) (((0:Int)≤(0:Int)∧(0:Int)<(↑e.4.length:Int))∧ ∀y10,e.4[Int.toNat (0:Int)]? =some y10→Cnd (y10.1=(3:Int)) (K (0:Int)) (K (8:Int))) (Cnd (e.1=(11:Int)) (((0:Int)≤(0:Int)∧(0:Int)<(↑e.4.length:Int))∧ ∀y10,e.4[Int.toNat (0:Int)]? =some y10→Cnd (y10.1=(3:Int)) (K (0:Int)) (K (8:Int))) (K (0:Int)))))) (0:Int)) (K (6:Int))) (Cnd (e.1=(5:Int)) (X_r1_Key e.3 fun x7_0=>Cnd (x7_0=true) (Lp1 (fun x8_0 Y8_1=>e.4.length≤(9223372036854775807:Nat)→Cnd (x8_0<(↑e.4.length:Int)) (((0:Int)≤x8_0∧x8_0<(↑e.4.length:Int))∧ ∀y10,e.4[x8_0.toNat]? =some y10→X_r3_Check y10 fun x12_0=>Cnd (x12_0=(0:Int)) (InI (x8_0+(1:Int))∧Y8_1 (x8_0+(1:Int))) (K x12_0)) (Cnd (e.1=(9:Int)) (((0:Int)≤(0:Int)∧(0:Int)<(↑e.4.length:Int))∧ ∀y10,e.4[Int.toNat (0:Int)]? =some y10→Cnd (y10.1=(3:Int)) (K (0:Int)) (K (8:Int))) (Cnd (e.1=(10:Int)) (((0:Int)≤(0:Int)∧(0:Int)<(↑e.4.length:Int))∧ ∀y10,e.4[Int.toNat (0:Int)]? =some y10→Cnd (y10.1=(3:Int)) (K (0:Int)) (K (8:Int))) (Cnd (e.1=(11:Int)) (((0:Int)≤(0:Int)∧(0:Int)<(↑e.4.length:Int))∧ ∀y10,e.4[Int.toNat (0:Int)]? =some y10→Cnd (y10.1=(3:Int)) (K (0:Int)) (K (8:Int))) (K (0:Int)))))) (0:Int)) (K (6:Int))) (Lp1 (fun x7_0 Y7_1=>e.4.length≤(9223372036854775807:Nat)→Cnd (x7_0<(↑e.4.length:Int)) (((0:Int)≤x7_0∧x7_0<(↑e.4.length:Int))∧ ∀y9,e.4[x7_0.toNat]? =some y9→X_r3_Check y9 fun x11_0=>Cnd (x11_0=(0:Int)) (InI (x7_0+(1:Int))∧Y7_1 (x7_0+(1:Int))) (K x11_0)) (Cnd (e.1=(9:Int)) (((0:Int)≤(0:Int)∧(0:Int)<(↑e.4.length:Int))∧ ∀y9,e.4[Int.toNat (0:Int)]? =some y9→Cnd (y9.1=(3:Int)) (K (0:Int)) (K (8:Int))) (Cnd (e.1=(10:Int)) (((0:Int)≤(0:Int)∧(0:Int)<(↑e.4.length:Int))∧ ∀y9,e.4[Int.toNat (0:Int)]? =some y9→Cnd (y9.1=(3:Int)) (K (0:Int)) (K (8:Int))) (Cnd (e.1=(11:Int)) (((0:Int)≤(0:Int)∧(0:Int)<(↑e.4.length:Int))∧ ∀y9,e.4[Int.toNat (0:Int)]? =some y9→Cnd (y9.1=(3:Int)) (K (0:Int)) (K (8:Int))) (K (0:Int)))))) (0:Int)))))) (0:Int)))) (K (15:Int))))
def z4m (e:Ex) (K:Int→Prop):Prop:=w37 q83 q1f q0z q27 e K
abbrev z1w:Type:=Ex→Int→Int→(Int→Int→Prop)→Prop
def w38 (X_r6_part:j4q) (X:z1w) (e:Ex) (depth:Int) (n:Int) (K:Int→Int→Prop):Prop:=Cnd ((60:Int)≤n) (K (5:Int) n) (InI (n+(1:Int))∧Cnd ((10:Int)<depth) (K (18:Int) (n+(1:Int))) (X_r6_part (Ex.mk e.1 e.2 e.3 e.4 e.5) fun x0_0=>Cnd (x0_0=(0:Int)) (Lp2 (fun x1_0 x1_1 Y1_2=>e.5.length≤(9223372036854775807:Nat)→Cnd (x1_0<(↑e.5.length:Int)) (((0:Int)≤x1_0∧x1_0<(↑e.5.length:Int))∧ ∀y3,e.5[x1_0.toNat]? =some y3→InI (depth+(1:Int))∧X (Ex.mk y3.1 y3.2 y3.3 y3.4 y3.5) (depth+(1:Int)) x1_1 fun x5_0 x5_1=>Cnd (x5_0=(0:Int)) (InI (x1_0+(1:Int))∧Y1_2 (x1_0+(1:Int)) x5_1) (K x5_0 x5_1)) (K (0:Int) x1_1)) (0:Int) (n+(1:Int))) (K x0_0 (n+(1:Int)))))
def z4n (e:Ex) (depth:Int) (n:Int) (K:Int→Int→Prop):Prop:= ∀X:z1w,(∀e depth n K,w38 z4m X e depth n K→X e depth n K)→X e depth n K
abbrev q6o:Type:=Ex→(Int→Prop)→Prop
def w39 (X_r6_walk:z1w) (e:Ex) (K:Int→Prop):Prop:=X_r6_walk (Ex.mk e.1 e.2 e.3 e.4 e.5) (1:Int) (0:Int) fun x0_0 _=>K x0_0
def q4u (e:Ex) (K:Int→Prop):Prop:=w39 z4n e K
abbrev z2u:Type:=Seg→(Int→Prop)→Prop
def z72 (X_r1_Key:q03) (X_r6_members:q5l) (X_r6_None:j4n) (X_r6_Expr:q6o) (g:Seg) (K:Int→Prop):Prop:=X_r1_Key g.1 fun x0_0=>Cnd (x0_0=true) (X_r1_Key g.2 fun x1_0=>Cnd (x1_0=true) (X_r6_members g.3 fun x2_0=>Cnd (x2_0=(0:Int)) (X_r6_members g.4 fun x3_0=>Cnd (x3_0=(0:Int)) (X_r6_None (Ex.mk g.5.1 g.5.2 g.5.3 g.5.4 g.5.5) fun x4_0=>Cnd (x4_0=true) (K (0:Int)) (X_r6_Expr (Ex.mk g.5.1 g.5.2 g.5.3 g.5.4 g.5.5) fun x5_0=>K x5_0)) (K x3_0)) (K x2_0)) (K (6:Int))) (K (6:Int))
def q7k (g:Seg) (K:Int→Prop):Prop:=z72 q0z q3g z1v q4u g K
abbrev z0z:Type:=List (Seg)→(Int→Prop)→Prop
def z5r (X_r6_Segment:z2u) (l:List (Seg)) (K:Int→Prop):Prop:=l.length≤(9223372036854775807:Nat)→Cnd ((20:Int)<(↑l.length:Int)) (K (5:Int)) (Lp1 (fun x1_0 Y1_1=>l.length≤(9223372036854775807:Nat)→Cnd (x1_0<(↑l.length:Int)) (((0:Int)≤x1_0∧x1_0<(↑l.length:Int))∧ ∀y3,l[x1_0.toNat]? =some y3→X_r6_Segment (Seg.mk y3.1 y3.2 y3.3 y3.4 (Ex.mk y3.5.1 y3.5.2 y3.5.3 y3.5.4 y3.5.5)) fun x5_0=>Cnd (x5_0=(0:Int)) (Cnd ((0:Int)<x1_0) (((0:Int)≤x1_0∧x1_0<(↑l.length:Int))∧ ∀y6,l[x1_0.toNat]? =some y6→InI (x1_0 - (1:Int))∧((0:Int)≤x1_0 - (1:Int)∧x1_0 - (1:Int)<(↑l.length:Int))∧ ∀y8,l[(x1_0 - (1:Int)).toNat]? =some y8→Cnd (Lk.blt y8.1 y6.1) (InI (x1_0+(1:Int))∧Y1_1 (x1_0+(1:Int))) (K (9:Int))) (InI (x1_0+(1:Int))∧Y1_1 (x1_0+(1:Int)))) (K x5_0)) (K (0:Int))) (0:Int))
def q57 (l:List (Seg)) (K:Int→Prop):Prop:=z5r q7k l K
abbrev q78:Type:=Flg→(Int→Prop)→Prop
def z1x (X_r3_Check:q7j) (f:Flg) (K:Int→Prop):Prop:=f.3.length≤(9223372036854775807:Nat)→Cnd ((8:Int)<(↑f.3.length:Int)) (K (5:Int)) (Cnd ((↑f.3.length:Int)=(0:Int)) (K (3:Int)) (Lp1 (fun x1_0 Y1_1=>Cnd (x1_0<(↑f.3.length:Int)) (((0:Int)≤x1_0∧x1_0<(↑f.3.length:Int))∧ ∀y2,f.3[x1_0.toNat]? =some y2→X_r3_Check y2 fun x4_0=>Cnd (x4_0=(0:Int)) (((0:Int)≤x1_0∧x1_0<(↑f.3.length:Int))∧ ∀y5,f.3[x1_0.toNat]? =some y5→Cnd (y5.1=f.2) (InI (x1_0+(1:Int))∧Y1_1 (x1_0+(1:Int))) (K (8:Int))) (K x4_0)) (Cnd (f.5<(1:Int)) (K (3:Int)) (Cnd ((↑f.3.length:Int)<f.5) (K (3:Int)) (K (0:Int))))) (0:Int)))
def q3x (f:Flg) (K:Int→Prop):Prop:=z1x q27 f K
abbrev q5b:Type:=List (Prq)→(Int→Prop)→Prop
def q79 (X_r1_Key:q03) (l:List (Prq)) (K:Int→Prop):Prop:=l.length≤(9223372036854775807:Nat)→Cnd ((4:Int)<(↑l.length:Int)) (K (5:Int)) (Lp1 (fun x1_0 Y1_1=>l.length≤(9223372036854775807:Nat)→Cnd (x1_0<(↑l.length:Int)) (((0:Int)≤x1_0∧x1_0<(↑l.length:Int))∧ ∀y3,l[x1_0.toNat]? =some y3→X_r1_Key y3.1 fun x5_0=>Cnd (x5_0=true) (Cnd ((0:Int)<x1_0) (((0:Int)≤x1_0∧x1_0<(↑l.length:Int))∧ ∀y6,l[x1_0.toNat]? =some y6→InI (x1_0 - (1:Int))∧((0:Int)≤x1_0 - (1:Int)∧x1_0 - (1:Int)<(↑l.length:Int))∧ ∀y8,l[(x1_0 - (1:Int)).toNat]? =some y8→Cnd (Lk.blt y8.1 y6.1) (((0:Int)≤x1_0∧x1_0<(↑l.length:Int))∧ ∀y10,l[x1_0.toNat]? =some y10→Cnd (y10.2<(1:Int)) (K (3:Int)) (((0:Int)≤x1_0∧x1_0<(↑l.length:Int))∧ ∀y12,l[x1_0.toNat]? =some y12→Cnd ((8:Int)<y12.2) (K (3:Int)) (InI (x1_0+(1:Int))∧Y1_1 (x1_0+(1:Int))))) (K (9:Int))) (((0:Int)≤x1_0∧x1_0<(↑l.length:Int))∧ ∀y6,l[x1_0.toNat]? =some y6→Cnd (y6.2<(1:Int)) (K (3:Int)) (((0:Int)≤x1_0∧x1_0<(↑l.length:Int))∧ ∀y8,l[x1_0.toNat]? =some y8→Cnd ((8:Int)<y8.2) (K (3:Int)) (InI (x1_0+(1:Int))∧Y1_1 (x1_0+(1:Int)))))) (K (6:Int))) (K (0:Int))) (0:Int))
def q2f (l:List (Prq)) (K:Int→Prop):Prop:=q79 q0z l K
abbrev z2v:Type:=List (Tgt)→Int→(Int→Prop)→Prop
def z73 (X_r1_Key:q03) (X_r6_members:q5l) (l:List (Tgt)) (n:Int) (K:Int→Prop):Prop:=l.length≤(9223372036854775807:Nat)→Cnd ((8:Int)<(↑l.length:Int)) (K (5:Int)) (Lp1 (fun x1_0 Y1_1=>l.length≤(9223372036854775807:Nat)→Cnd (x1_0<(↑l.length:Int)) (((0:Int)≤x1_0∧x1_0<(↑l.length:Int))∧ ∀y3,l[x1_0.toNat]? =some y3→X_r1_Key y3.1 fun x5_0=>Cnd (x5_0=true) (((0:Int)≤x1_0∧x1_0<(↑l.length:Int))∧ ∀y6,l[x1_0.toNat]? =some y6→Cnd (y6.2<(1:Int)) (K (3:Int)) (((0:Int)≤x1_0∧x1_0<(↑l.length:Int))∧ ∀y8,l[x1_0.toNat]? =some y8→Cnd (n<y8.2) (K (3:Int)) (((0:Int)≤x1_0∧x1_0<(↑l.length:Int))∧ ∀y10,l[x1_0.toNat]? =some y10→y10.3.length≤(9223372036854775807:Nat)→Cnd ((↑y10.3.length:Int)=(0:Int)) (K (3:Int)) (((0:Int)≤x1_0∧x1_0<(↑l.length:Int))∧ ∀y13,l[x1_0.toNat]? =some y13→X_r6_members y13.3 fun x15_0=>Cnd (x15_0=(0:Int)) (InI (x1_0+(1:Int))∧Y1_1 (x1_0+(1:Int))) (K x15_0))))) (K (6:Int))) (K (0:Int))) (0:Int))
def q7l (l:List (Tgt)) (n:Int) (K:Int→Prop):Prop:=z73 q0z q3g l n K
abbrev q84:Type:=List (Rng)→Int→(Int→Prop)→Prop
def q42 (l:List (Rng)) (variations:Int) (K:Int→Prop):Prop:=l.length≤(9223372036854775807:Nat)→Cnd ((16:Int)<(↑l.length:Int)) (K (5:Int)) (Lp2 (fun x1_0 x1_1 Y1_2=>l.length≤(9223372036854775807:Nat)→Cnd (x1_1<(↑l.length:Int)) (((0:Int)≤x1_1∧x1_1<(↑l.length:Int))∧ ∀y3,l[x1_1.toNat]? =some y3→Cnd (y3.3<(1:Int)) (K (3:Int)) (((0:Int)≤x1_1∧x1_1<(↑l.length:Int))∧ ∀y5,l[x1_1.toNat]? =some y5→Cnd (variations<y5.3) (K (3:Int)) (((0:Int)≤x1_1∧x1_1<(↑l.length:Int))∧ ∀y7,l[x1_1.toNat]? =some y7→Cnd (y7.1=x1_0) (((0:Int)≤x1_1∧x1_1<(↑l.length:Int))∧ ∀y9,l[x1_1.toNat]? =some y9→Cnd (y9.2≤x1_0) (K (9:Int)) (Cnd ((0:Int)<x1_1) (((0:Int)≤x1_1∧x1_1<(↑l.length:Int))∧ ∀y11,l[x1_1.toNat]? =some y11→InI (x1_1 - (1:Int))∧((0:Int)≤x1_1 - (1:Int)∧x1_1 - (1:Int)<(↑l.length:Int))∧ ∀y13,l[(x1_1 - (1:Int)).toNat]? =some y13→Cnd (y11.3=y13.3) (K (9:Int)) (((0:Int)≤x1_1∧x1_1<(↑l.length:Int))∧ ∀y15,l[x1_1.toNat]? =some y15→InI (x1_1+(1:Int))∧Y1_2 y15.2 (x1_1+(1:Int)))) (((0:Int)≤x1_1∧x1_1<(↑l.length:Int))∧ ∀y11,l[x1_1.toNat]? =some y11→InI (x1_1+(1:Int))∧Y1_2 y11.2 (x1_1+(1:Int))))) (K (9:Int))))) (Cnd (x1_0=(10000:Int)) (K (0:Int)) (K (3:Int)))) (0:Int) (0:Int))
abbrev q85:Type:=Srv→Int→(Int→Prop)→Prop
def j7e (X_r1_Key:q03) (X_r1_Valid:q1a) (X_r6_Split:q84) (v:Srv) (variations:Int) (K:Int→Prop):Prop:=Cnd (v.1=(0:Int)) (X_r1_Key v.2 fun x0_0=>Cnd (x0_0=true) (X_r1_Key v.3 fun x1_0=>Cnd (x1_0=true) (X_r1_Valid v.4 fun x2_0=>Cnd (x2_0=true) (X_r6_Split v.5 variations fun x3_0=>K x3_0) (K (2:Int))) (K (6:Int))) (K (6:Int))) (Cnd (v.1<(1:Int)) (K (3:Int)) (Cnd (variations<v.1) (K (3:Int)) (Cnd (v.2=ByteArray.mk (Array.mk [])) (Cnd (v.3=ByteArray.mk (Array.mk [])) (Cnd (v.4=ByteArray.mk (Array.mk [])) (v.5.length≤(9223372036854775807:Nat)→Cnd ((0:Int)<(↑v.5.length:Int)) (K (15:Int)) (K (0:Int))) (K (15:Int))) (K (15:Int))) (K (15:Int)))))
def q58 (v:Srv) (variations:Int) (K:Int→Prop):Prop:=j7e q0z q0x q42 v variations K
abbrev j0n:Type:=List (Rul)→Int→(Int→Prop)→Prop
def j7f (X_r1_Key:q03) (X_r6_Expr:q6o) (X_r6_Serve:q85) (l:List (Rul)) (n:Int) (K:Int→Prop):Prop:=l.length≤(9223372036854775807:Nat)→Cnd ((12:Int)<(↑l.length:Int)) (K (5:Int)) (Lp1 (fun x1_0 Y1_1=>l.length≤(9223372036854775807:Nat)→Cnd (x1_0<(↑l.length:Int)) (((0:Int)≤x1_0∧x1_0<(↑l.length:Int))∧ ∀y3,l[x1_0.toNat]? =some y3→X_r1_Key y3.1 fun x5_0=>Cnd (x5_0=true) (Lp1 (fun x6_0 Y6_1=>Cnd (x6_0<x1_0) (((0:Int)≤x6_0∧x6_0<(↑l.length:Int))∧ ∀y7,l[x6_0.toNat]? =some y7→((0:Int)≤x1_0∧x1_0<(↑l.length:Int))∧ ∀y9,l[x1_0.toNat]? =some y9→Cnd (y7.1=y9.1) (K (10:Int)) (InI (x6_0+(1:Int))∧Y6_1 (x6_0+(1:Int)))) (((0:Int)≤x1_0∧x1_0<(↑l.length:Int))∧ ∀y7,l[x1_0.toNat]? =some y7→X_r6_Expr (Ex.mk y7.2.1 y7.2.2 y7.2.3 y7.2.4 y7.2.5) fun x9_0=>Cnd (x9_0=(0:Int)) (((0:Int)≤x1_0∧x1_0<(↑l.length:Int))∧ ∀y10,l[x1_0.toNat]? =some y10→X_r6_Serve (Srv.mk y10.3.1 y10.3.2 y10.3.3 y10.3.4 y10.3.5) n fun x12_0=>Cnd (x12_0=(0:Int)) (InI (x1_0+(1:Int))∧Y1_1 (x1_0+(1:Int))) (K x12_0)) (K x9_0))) (0:Int)) (K (6:Int))) (K (0:Int))) (0:Int))
def z1d (l:List (Rul)) (n:Int) (K:Int→Prop):Prop:=j7f q0z q4u q58 l n K
abbrev j4r:Type:=Flg→(Int→Prop)→Prop
def w4a (X_r1_Key:q03) (X_r6_variations:q78) (X_r6_prerequisites:q5b) (X_r6_targets:z2v) (X_r6_rules:j0n) (X_r6_Serve:q85) (f:Flg) (K:Int→Prop):Prop:=f.3.length≤(9223372036854775807:Nat)→X_r1_Key f.1 fun x1_0=>Cnd (x1_0=true) (Cnd (f.2<(1:Int)) (K (7:Int)) (Cnd ((5:Int)<f.2) (K (7:Int)) (X_r6_variations (Flg.mk f.1 f.2 f.3 f.4 f.5 f.6 f.7 f.8 (Srv.mk f.9.1 f.9.2 f.9.3 f.9.4 f.9.5)) fun x2_0=>Cnd (x2_0=(0:Int)) (X_r6_prerequisites f.6 fun x3_0=>Cnd (x3_0=(0:Int)) (X_r6_targets f.7 (↑f.3.length:Int) fun x4_0=>Cnd (x4_0=(0:Int)) (X_r6_rules f.8 (↑f.3.length:Int) fun x5_0=>Cnd (x5_0=(0:Int)) (X_r6_Serve (Srv.mk f.9.1 f.9.2 f.9.3 f.9.4 f.9.5) (↑f.3.length:Int) fun x6_0=>K x6_0) (K x5_0)) (K x4_0)) (K x3_0)) (K x2_0)))) (K (6:Int))
def z4o (f:Flg) (K:Int→Prop):Prop:=w4a q0z q3x q2f q7l z1d q58 f K
abbrev j0o:Type:=List (Flg)→(Int→Prop)→Prop
def j7g (X_r6_Flag:j4r) (l:List (Flg)) (K:Int→Prop):Prop:=l.length≤(9223372036854775807:Nat)→Cnd ((30:Int)<(↑l.length:Int)) (K (5:Int)) (Lp1 (fun x1_0 Y1_1=>l.length≤(9223372036854775807:Nat)→Cnd (x1_0<(↑l.length:Int)) (((0:Int)≤x1_0∧x1_0<(↑l.length:Int))∧ ∀y3,l[x1_0.toNat]? =some y3→X_r6_Flag (Flg.mk y3.1 y3.2 y3.3 y3.4 y3.5 y3.6 y3.7 y3.8 (Srv.mk y3.9.1 y3.9.2 y3.9.3 y3.9.4 y3.9.5)) fun x5_0=>Cnd (x5_0=(0:Int)) (Cnd ((0:Int)<x1_0) (((0:Int)≤x1_0∧x1_0<(↑l.length:Int))∧ ∀y6,l[x1_0.toNat]? =some y6→InI (x1_0 - (1:Int))∧((0:Int)≤x1_0 - (1:Int)∧x1_0 - (1:Int)<(↑l.length:Int))∧ ∀y8,l[(x1_0 - (1:Int)).toNat]? =some y8→Cnd (Lk.blt y8.1 y6.1) (InI (x1_0+(1:Int))∧Y1_1 (x1_0+(1:Int))) (K (9:Int))) (InI (x1_0+(1:Int))∧Y1_1 (x1_0+(1:Int)))) (K x5_0)) (K (0:Int))) (0:Int))
def z1e (l:List (Flg)) (K:Int→Prop):Prop:=j7g z4o l K
abbrev j0p:Type:=Lay_→(Int→Prop)→Prop
def j7h (X_r1_Key:q03) (X_r1_Valid:q1a) (l:Lay_) (K:Int→Prop):Prop:=X_r1_Key l.1 fun x0_0=>Cnd (x0_0=true) (X_r1_Key l.2 fun x1_0=>Cnd (x1_0=true) (X_r1_Valid l.3 fun x2_0=>Cnd (x2_0=true) (Cnd (l.4<(0:Int)) (K (3:Int)) (Cnd ((10000:Int)<l.4) (K (3:Int)) (Cnd (l.5<(0:Int)) (K (3:Int)) (Cnd ((1099511627776:Int)<l.5) (K (3:Int)) (l.6.length≤(9223372036854775807:Nat)→Cnd ((32:Int)<(↑l.6.length:Int)) (K (5:Int)) (Lp1 (fun x4_0 Y4_1=>l.6.length≤(9223372036854775807:Nat)→Cnd (x4_0<(↑l.6.length:Int)) (((0:Int)≤x4_0∧x4_0<(↑l.6.length:Int))∧ ∀y6,l.6[x4_0.toNat]? =some y6→Cnd (y6.1<(0:Int)) (K (3:Int)) (Cnd (y6.2≤y6.1) (K (3:Int)) (Cnd ((10000:Int)<y6.2) (K (3:Int)) (Cnd (y6.3<(0:Int)) (K (3:Int)) (Cnd ((1099511627776:Int)<y6.3) (K (3:Int)) (Cnd ((0:Int)<x4_0) (InI (x4_0 - (1:Int))∧((0:Int)≤x4_0 - (1:Int)∧x4_0 - (1:Int)<(↑l.6.length:Int))∧ ∀y8,l.6[(x4_0 - (1:Int)).toNat]? =some y8→Cnd (y6.1<y8.2) (K (9:Int)) (InI (x4_0+(1:Int))∧Y4_1 (x4_0+(1:Int)))) (InI (x4_0+(1:Int))∧Y4_1 (x4_0+(1:Int))))))))) (K (0:Int))) (0:Int))))))) (K (2:Int))) (K (6:Int))) (K (6:Int))
def z1f (l:Lay_) (K:Int→Prop):Prop:=j7h q0z q0x l K
abbrev z5s:Type:=List (Lay_)→(Int→Prop)→Prop
def j2x (X_r6_Layer:j0p) (l:List (Lay_)) (K:Int→Prop):Prop:=l.length≤(9223372036854775807:Nat)→Cnd ((6:Int)<(↑l.length:Int)) (K (5:Int)) (Lp1 (fun x1_0 Y1_1=>l.length≤(9223372036854775807:Nat)→Cnd (x1_0<(↑l.length:Int)) (((0:Int)≤x1_0∧x1_0<(↑l.length:Int))∧ ∀y3,l[x1_0.toNat]? =some y3→X_r6_Layer y3 fun x5_0=>Cnd (x5_0=(0:Int)) (Cnd ((0:Int)<x1_0) (((0:Int)≤x1_0∧x1_0<(↑l.length:Int))∧ ∀y6,l[x1_0.toNat]? =some y6→InI (x1_0 - (1:Int))∧((0:Int)≤x1_0 - (1:Int)∧x1_0 - (1:Int)<(↑l.length:Int))∧ ∀y8,l[(x1_0 - (1:Int)).toNat]? =some y8→Cnd (Lk.blt y8.1 y6.1) (InI (x1_0+(1:Int))∧Y1_1 (x1_0+(1:Int))) (K (9:Int))) (InI (x1_0+(1:Int))∧Y1_1 (x1_0+(1:Int)))) (K x5_0)) (K (0:Int))) (0:Int))
def q86 (l:List (Lay_)) (K:Int→Prop):Prop:=j2x z1f l K
abbrev j0q:Type:=List (Spn)→(Int→Prop)→Prop
def q87 (l:List (Spn)) (K:Int→Prop):Prop:=l.length≤(9223372036854775807:Nat)→Cnd ((16:Int)<(↑l.length:Int)) (K (5:Int)) (Lp1 (fun x1_0 Y1_1=>l.length≤(9223372036854775807:Nat)→Cnd (x1_0<(↑l.length:Int)) (((0:Int)≤x1_0∧x1_0<(↑l.length:Int))∧ ∀y3,l[x1_0.toNat]? =some y3→Cnd (y3.1<(0:Int)) (K (3:Int)) (((0:Int)≤x1_0∧x1_0<(↑l.length:Int))∧ ∀y5,l[x1_0.toNat]? =some y5→((0:Int)≤x1_0∧x1_0<(↑l.length:Int))∧ ∀y7,l[x1_0.toNat]? =some y7→Cnd (y7.2≤y5.1) (K (3:Int)) (((0:Int)≤x1_0∧x1_0<(↑l.length:Int))∧ ∀y9,l[x1_0.toNat]? =some y9→Cnd ((10000:Int)<y9.2) (K (3:Int)) (Cnd ((0:Int)<x1_0) (((0:Int)≤x1_0∧x1_0<(↑l.length:Int))∧ ∀y11,l[x1_0.toNat]? =some y11→InI (x1_0 - (1:Int))∧((0:Int)≤x1_0 - (1:Int)∧x1_0 - (1:Int)<(↑l.length:Int))∧ ∀y13,l[(x1_0 - (1:Int)).toNat]? =some y13→Cnd (y11.1≤y13.2) (K (9:Int)) (InI (x1_0+(1:Int))∧Y1_1 (x1_0+(1:Int)))) (InI (x1_0+(1:Int))∧Y1_1 (x1_0+(1:Int))))))) (K (0:Int))) (0:Int))
abbrev q8a:Type:=Exper→(Int→Prop)→Prop
def z1y (X_r1_Key:q03) (X_r1_Valid:q1a) (X_r6_Spans:j0q) (X_r6_Split:q84) (X_r6_Expr:q6o) (x:Exper) (K:Int→Prop):Prop:=X_r1_Key x.1 fun x0_0=>Cnd (x0_0=true) (X_r1_Key x.2 fun x1_0=>Cnd (x1_0=true) (X_r1_Key x.3 fun x2_0=>Cnd (x2_0=true) (X_r1_Valid x.4 fun x3_0=>Cnd (x3_0=true) (Cnd (x.5<(1:Int)) (K (7:Int)) (Cnd ((3:Int)<x.5) (K (7:Int)) (X_r6_Spans x.6 fun x4_0=>Cnd (x4_0=(0:Int)) (X_r6_Split x.7 (8:Int) fun x5_0=>Cnd (x5_0=(0:Int)) (X_r6_Expr (Ex.mk x.8.1 x.8.2 x.8.3 x.8.4 x.8.5) fun x6_0=>K x6_0) (K x5_0)) (K x4_0)))) (K (2:Int))) (K (6:Int))) (K (6:Int))) (K (6:Int))
def q3y (x:Exper) (K:Int→Prop):Prop:=z1y q0z q0x q87 q42 q4u x K
abbrev q6v:Type:=List (Exper)→(Int→Prop)→Prop
def z0h (X_r6_Experiment:q8a) (l:List (Exper)) (K:Int→Prop):Prop:=l.length≤(9223372036854775807:Nat)→Cnd ((16:Int)<(↑l.length:Int)) (K (5:Int)) (Lp1 (fun x1_0 Y1_1=>l.length≤(9223372036854775807:Nat)→Cnd (x1_0<(↑l.length:Int)) (((0:Int)≤x1_0∧x1_0<(↑l.length:Int))∧ ∀y3,l[x1_0.toNat]? =some y3→X_r6_Experiment (Exper.mk y3.1 y3.2 y3.3 y3.4 y3.5 y3.6 y3.7 (Ex.mk y3.8.1 y3.8.2 y3.8.3 y3.8.4 y3.8.5)) fun x5_0=>Cnd (x5_0=(0:Int)) (Cnd ((0:Int)<x1_0) (((0:Int)≤x1_0∧x1_0<(↑l.length:Int))∧ ∀y6,l[x1_0.toNat]? =some y6→InI (x1_0 - (1:Int))∧((0:Int)≤x1_0 - (1:Int)∧x1_0 - (1:Int)<(↑l.length:Int))∧ ∀y8,l[(x1_0 - (1:Int)).toNat]? =some y8→Cnd (Lk.blt y8.1 y6.1) (InI (x1_0+(1:Int))∧Y1_1 (x1_0+(1:Int))) (K (9:Int))) (InI (x1_0+(1:Int))∧Y1_1 (x1_0+(1:Int)))) (K x5_0)) (K (0:Int))) (0:Int))
def q28 (l:List (Exper)) (K:Int→Prop):Prop:=z0h q3y l K
abbrev q6w:Type:=Envt→(Int→Prop)→Prop
def z0i (X_r6_settings:z0x) (X_r6_declared:z0y) (X_r6_segments:z0z) (X_r6_flags:j0o) (X_r6_layers:z5s) (X_r6_experiments:q6v) (v:Envt) (K:Int→Prop):Prop:=X_r6_settings (Sett.mk v.1.1 v.1.2 v.1.3) fun x0_0=>Cnd (x0_0=(0:Int)) (X_r6_declared v.2 fun x1_0=>Cnd (x1_0=(0:Int)) (X_r6_segments v.3 fun x2_0=>Cnd (x2_0=(0:Int)) (X_r6_flags v.4 fun x3_0=>Cnd (x3_0=(0:Int)) (X_r6_layers v.5 fun x4_0=>Cnd (x4_0=(0:Int)) (X_r6_experiments v.6 fun x5_0=>K x5_0) (K x4_0)) (K x3_0)) (K x2_0)) (K x1_0)) (K x0_0)
def q29 (v:Envt) (K:Int→Prop):Prop:=z0i q53 q54 q57 z1e q86 q28 v K
abbrev q43:Type:=List (Seg)→(List (ByteArray)→Prop)→Prop
def q3a (l:List (Seg)) (K:List (ByteArray)→Prop):Prop:=Lp2 (fun x0_0 x0_1 Y0_2=>l.length≤(9223372036854775807:Nat)→Cnd (x0_1<(↑l.length:Int)) (((0:Int)≤x0_1∧x0_1<(↑l.length:Int))∧ ∀y2,l[x0_1.toNat]? =some y2→Sml (x0_0++[y2.1]).length∧InI (x0_1+(1:Int))∧Y0_2 (x0_0++[y2.1]) (x0_1+(1:Int))) (K x0_0)) [] (0:Int)
abbrev q6x:Type:=List (ByteArray)→ByteArray→(Bool→Prop)→Prop
def q4h (l:List (ByteArray)) (s:ByteArray) (K:Bool→Prop):Prop:=Lp1 (fun x0_0 Y0_1=>l.length≤(9223372036854775807:Nat)→Cnd (x0_0<(↑l.length:Int)) (((0:Int)≤x0_0∧x0_0<(↑l.length:Int))∧ ∀y2,l[x0_0.toNat]? =some y2→Cnd (y2=s) (K true) (InI (x0_0+(1:Int))∧Y0_1 (x0_0+(1:Int)))) (K false)) (0:Int)
abbrev z1z:Type:=List (Decl)→ByteArray→ByteArray→(Int→Prop)→Prop
def q5m (l:List (Decl)) (kind:ByteArray) (name:ByteArray) (K:Int→Prop):Prop:=Lp1 (fun x0_0 Y0_1=>l.length≤(9223372036854775807:Nat)→Cnd (x0_0<(↑l.length:Int)) (((0:Int)≤x0_0∧x0_0<(↑l.length:Int))∧ ∀y2,l[x0_0.toNat]? =some y2→Cnd (y2.1=kind) (((0:Int)≤x0_0∧x0_0<(↑l.length:Int))∧ ∀y4,l[x0_0.toNat]? =some y4→Cnd (y4.2=name) (((0:Int)≤x0_0∧x0_0<(↑l.length:Int))∧ ∀y6,l[x0_0.toNat]? =some y6→K y6.3) (InI (x0_0+(1:Int))∧Y0_1 (x0_0+(1:Int)))) (InI (x0_0+(1:Int))∧Y0_1 (x0_0+(1:Int)))) (Cnd (name=ByteArray.mk (Array.mk [107,101,121])) (K (3:Int)) (K (0:Int)))) (0:Int)
abbrev j4s:Type:=Int→Ex→(Bool→Prop)→Prop
def q97 (t:Int) (e:Ex) (K:Bool→Prop):Prop:=Cnd (e.1=(6:Int)) (K true) (Cnd (e.1=(8:Int)) (Lp1 (fun x0_0 Y0_1=>e.4.length≤(9223372036854775807:Nat)→Cnd (x0_0<(↑e.4.length:Int)) (((0:Int)≤x0_0∧x0_0<(↑e.4.length:Int))∧ ∀y2,e.4[x0_0.toNat]? =some y2→Cnd (y2.1=t) (InI (x0_0+(1:Int))∧Y0_1 (x0_0+(1:Int))) (K false)) (K (match decide ((t,e,()).fst=(5:Int)) with|true=>false|false=>true))) (0:Int)) (e.4.length≤(9223372036854775807:Nat)→Cnd ((↑e.4.length:Int)=(0:Int)) (K false) (((0:Int)≤(0:Int)∧(0:Int)<(↑e.4.length:Int))∧ ∀y1,e.4[Int.toNat (0:Int)]? =some y1→Cnd (e.1=(7:Int)) (K (decide (y1.1=t))) (Jn1 (fun x3_0=>Cnd (x3_0=true) (Cnd (t=(3:Int)) (K (decide (y1.1=(3:Int)))) (K false)) (Cnd (e.1=(11:Int)) (Cnd (t=(3:Int)) (K (decide (y1.1=(3:Int)))) (Cnd (t=(5:Int)) (K (decide (y1.1=(3:Int)))) (K false))) (Cnd (t=(2:Int)) (K (decide (y1.1=t))) (Cnd (t=(3:Int)) (K (decide (y1.1=t))) (Cnd (t=(4:Int)) (K (decide (y1.1=t))) (K false)))))) fun Y3_0=>Cnd (e.1=(9:Int)) (Y3_0 (decide (e.1=(9:Int)))) (Y3_0 (decide (e.1=(10:Int))))))))
abbrev q3z:Type:=List (Decl)→List (ByteArray)→Ex→(Int→Prop)→Prop
def w4b (X_r1_Has:q6x) (X_r6_IsTest:q11) (X_r9_Type:z1z) (X_r9_fits:j4s) (X:q3z) (l:List (Decl)) (segments:List (ByteArray)) (e:Ex) (K:Int→Prop):Prop:=Cnd (e.1=(5:Int)) (X_r1_Has segments e.3 fun x0_0=>Cnd (x0_0=true) (Jn0 (Lp1 (fun x1_0 Y1_1=>e.5.length≤(9223372036854775807:Nat)→Cnd (x1_0<(↑e.5.length:Int)) (((0:Int)≤x1_0∧x1_0<(↑e.5.length:Int))∧ ∀y3,e.5[x1_0.toNat]? =some y3→X l segments (Ex.mk y3.1 y3.2 y3.3 y3.4 y3.5) fun x5_0=>Cnd (x5_0=(0:Int)) (InI (x1_0+(1:Int))∧Y1_1 (x1_0+(1:Int))) (K x5_0)) (K (0:Int))) (0:Int)) fun x1_0=>X_r6_IsTest e.1 fun x2_0=>Cnd (x2_0=true) (X_r9_Type l e.2 e.3 fun x3_0=>Cnd (x3_0=(0:Int)) (K (11:Int)) (X_r9_fits x3_0 (Ex.mk e.1 e.2 e.3 e.4 e.5) fun x4_0=>Cnd (x4_0=true) x1_0 (K (8:Int)))) x1_0) (K (11:Int))) (Jn0 (Lp1 (fun x0_0 Y0_1=>e.5.length≤(9223372036854775807:Nat)→Cnd (x0_0<(↑e.5.length:Int)) (((0:Int)≤x0_0∧x0_0<(↑e.5.length:Int))∧ ∀y2,e.5[x0_0.toNat]? =some y2→X l segments (Ex.mk y2.1 y2.2 y2.3 y2.4 y2.5) fun x4_0=>Cnd (x4_0=(0:Int)) (InI (x0_0+(1:Int))∧Y0_1 (x0_0+(1:Int))) (K x4_0)) (K (0:Int))) (0:Int)) fun x0_0=>X_r6_IsTest e.1 fun x1_0=>Cnd (x1_0=true) (X_r9_Type l e.2 e.3 fun x2_0=>Cnd (x2_0=(0:Int)) (K (11:Int)) (X_r9_fits x2_0 (Ex.mk e.1 e.2 e.3 e.4 e.5) fun x3_0=>Cnd (x3_0=true) x0_0 (K (8:Int)))) x0_0)
def q4v (l:List (Decl)) (segments:List (ByteArray)) (e:Ex) (K:Int→Prop):Prop:= ∀X:q3z,(∀l segments e K,w4b q4h q1f q5m q97 X l segments e K→X l segments e K)→X l segments e K
abbrev q9w:Type:=List (ByteArray)→ByteArray→(List (ByteArray)→Prop)→Prop
def q59 (l:List (ByteArray)) (s:ByteArray) (K:List (ByteArray)→Prop):Prop:=Lp1 (fun x0_0 Y0_1=>l.length≤(9223372036854775807:Nat)→Cnd (x0_0<(↑l.length:Int)) (((0:Int)≤x0_0∧x0_0<(↑l.length:Int))∧ ∀y2,l[x0_0.toNat]? =some y2→Cnd (Lk.blt y2 s) (InI (x0_0+(1:Int))∧Y0_1 (x0_0+(1:Int))) (l.length≤(9223372036854775807:Nat)→Cnd (x0_0<(↑l.length:Int)) (((0:Int)≤x0_0∧x0_0<(↑l.length:Int))∧ ∀y5,l[x0_0.toNat]? =some y5→Cnd (y5=s) (K l) (((0:Int)≤(0:Int)∧(0:Int)≤x0_0∧x0_0≤(↑l.length:Int))∧Sml ([]++List.drop (Int.toNat (0:Int)) (List.take x0_0.toNat l)).length∧((0:Int)≤x0_0∧x0_0≤(↑l.length:Int)∧(↑l.length:Int)≤(↑l.length:Int))∧Sml ([]++List.drop (Int.toNat (0:Int)) (List.take x0_0.toNat l)++[s]).length∧Sml ([]++List.drop (Int.toNat (0:Int)) (List.take x0_0.toNat l)++[s]++List.drop x0_0.toNat (List.take (↑l.length:Int).toNat l)).length∧K ([]++List.drop (Int.toNat (0:Int)) (List.take x0_0.toNat l)++[s]++List.drop x0_0.toNat (List.take (↑l.length:Int).toNat l)))) (((0:Int)≤(0:Int)∧(0:Int)≤x0_0∧x0_0≤(↑l.length:Int))∧Sml ([]++List.drop (Int.toNat (0:Int)) (List.take x0_0.toNat l)).length∧((0:Int)≤x0_0∧x0_0≤(↑l.length:Int)∧(↑l.length:Int)≤(↑l.length:Int))∧Sml ([]++List.drop (Int.toNat (0:Int)) (List.take x0_0.toNat l)++[s]).length∧Sml ([]++List.drop (Int.toNat (0:Int)) (List.take x0_0.toNat l)++[s]++List.drop x0_0.toNat (List.take (↑l.length:Int).toNat l)).length∧K ([]++List.drop (Int.toNat (0:Int)) (List.take x0_0.toNat l)++[s]++List.drop x0_0.toNat (List.take (↑l.length:Int).toNat l))))) (l.length≤(9223372036854775807:Nat)→Cnd (x0_0<(↑l.length:Int)) (((0:Int)≤x0_0∧x0_0<(↑l.length:Int))∧ ∀y3,l[x0_0.toNat]? =some y3→Cnd (y3=s) (K l) (((0:Int)≤(0:Int)∧(0:Int)≤x0_0∧x0_0≤(↑l.length:Int))∧Sml ([]++List.drop (Int.toNat (0:Int)) (List.take x0_0.toNat l)).length∧((0:Int)≤x0_0∧x0_0≤(↑l.length:Int)∧(↑l.length:Int)≤(↑l.length:Int))∧Sml ([]++List.drop (Int.toNat (0:Int)) (List.take x0_0.toNat l)++[s]).length∧Sml ([]++List.drop (Int.toNat (0:Int)) (List.take x0_0.toNat l)++[s]++List.drop x0_0.toNat (List.take (↑l.length:Int).toNat l)).length∧K ([]++List.drop (Int.toNat (0:Int)) (List.take x0_0.toNat l)++[s]++List.drop x0_0.toNat (List.take (↑l.length:Int).toNat l)))) (((0:Int)≤(0:Int)∧(0:Int)≤x0_0∧x0_0≤(↑l.length:Int))∧Sml ([]++List.drop (Int.toNat (0:Int)) (List.take x0_0.toNat l)).length∧((0:Int)≤x0_0∧x0_0≤(↑l.length:Int)∧(↑l.length:Int)≤(↑l.length:Int))∧Sml ([]++List.drop (Int.toNat (0:Int)) (List.take x0_0.toNat l)++[s]).length∧Sml ([]++List.drop (Int.toNat (0:Int)) (List.take x0_0.toNat l)++[s]++List.drop x0_0.toNat (List.take (↑l.length:Int).toNat l)).length∧K ([]++List.drop (Int.toNat (0:Int)) (List.take x0_0.toNat l)++[s]++List.drop x0_0.toNat (List.take (↑l.length:Int).toNat l))))) (0:Int)
abbrev q5n:Type:=List (ByteArray)→Ex→(List (ByteArray)→Prop)→Prop
def z74 (X_r1_Add:q9w) (X:q5n) (l:List (ByteArray)) (e:Ex) (K:List (ByteArray)→Prop):Prop:=Jn1 (fun x0_0=>Lp2 (fun x1_0 x1_1 Y1_2=>e.5.length≤(9223372036854775807:Nat)→Cnd (x1_1<(↑e.5.length:Int)) (((0:Int)≤x1_1∧x1_1<(↑e.5.length:Int))∧ ∀y3,e.5[x1_1.toNat]? =some y3→X x1_0 (Ex.mk y3.1 y3.2 y3.3 y3.4 y3.5) fun x5_0=>InI (x1_1+(1:Int))∧Y1_2 x5_0 (x1_1+(1:Int))) (K x1_0)) x0_0 (0:Int)) fun Y0_0=>Cnd (e.1=(5:Int)) (X_r1_Add l e.3 fun x1_0=>Y0_0 x1_0) (Y0_0 l)
def q7m (l:List (ByteArray)) (e:Ex) (K:List (ByteArray)→Prop):Prop:= ∀X:q5n,(∀l e K,z74 q59 X l e K→X l e K)→X l e K
abbrev z2w:Type:=Ex→(List (ByteArray)→Prop)→Prop
def z77 (X_r11_refers:q5n) (e:Ex) (K:List (ByteArray)→Prop):Prop:=X_r11_refers [] (Ex.mk e.1 e.2 e.3 e.4 e.5) fun x0_0=>K x0_0
def q7n (e:Ex) (K:List (ByteArray)→Prop):Prop:=z77 q7m e K
abbrev z5t:Type:=List (Seg)→(List (Edg)→Prop)→Prop
def j2y (X_r11_Refers:z2w) (l:List (Seg)) (K:List (Edg)→Prop):Prop:=Lp2 (fun x0_0 x0_1 Y0_2=>l.length≤(9223372036854775807:Nat)→Cnd (x0_1<(↑l.length:Int)) (((0:Int)≤x0_1∧x0_1<(↑l.length:Int))∧ ∀y2,l[x0_1.toNat]? =some y2→X_r11_Refers (Ex.mk y2.5.1 y2.5.2 y2.5.3 y2.5.4 y2.5.5) fun x4_0=>Lp2 (fun x5_0 x5_1 Y5_2=>x4_0.length≤(9223372036854775807:Nat)→Cnd (x5_1<(↑x4_0.length:Int)) (((0:Int)≤x0_1∧x0_1<(↑l.length:Int))∧ ∀y7,l[x0_1.toNat]? =some y7→((0:Int)≤x5_1∧x5_1<(↑x4_0.length:Int))∧ ∀y9,x4_0[x5_1.toNat]? =some y9→Sml (x5_0++[Edg.mk y7.1 y9]).length∧InI (x5_1+(1:Int))∧Y5_2 (x5_0++[Edg.mk y7.1 y9]) (x5_1+(1:Int))) (InI (x0_1+(1:Int))∧Y0_2 x5_0 (x0_1+(1:Int)))) x0_0 (0:Int)) (K x0_0)) [] (0:Int)
def q88 (l:List (Seg)) (K:List (Edg)→Prop):Prop:=j2y q7n l K
abbrev j0r:Type:=List (Edg)→ByteArray→(List (ByteArray)→Prop)→Prop
def j7i (X_r1_Has:q6x) (X_r1_Add:q9w) (edges:List (Edg)) (node:ByteArray) (K:List (ByteArray)→Prop):Prop:=Lp2 (fun x0_0 x0_1 Y0_2=>x0_1.length≤(9223372036854775807:Nat)→Cnd ((0:Int)<(↑x0_1.length:Int)) (((0:Int)≤(0:Int)∧(0:Int)<(↑x0_1.length:Int))∧ ∀y2,x0_1[Int.toNat (0:Int)]? =some y2→((0:Int)≤(1:Int)∧(1:Int)≤(↑x0_1.length:Int)∧(↑x0_1.length:Int)≤(↑x0_1.length:Int))∧Lp3 (fun x4_0 x4_1 x4_2 Y4_3=>edges.length≤(9223372036854775807:Nat)→Cnd (x4_2<(↑edges.length:Int)) (((0:Int)≤x4_2∧x4_2<(↑edges.length:Int))∧ ∀y6,edges[x4_2.toNat]? =some y6→Cnd (y6.1=y2) (((0:Int)≤x4_2∧x4_2<(↑edges.length:Int))∧ ∀y8,edges[x4_2.toNat]? =some y8→X_r1_Has x4_0 y8.2 fun x10_0=>Cnd (x10_0=true) (InI (x4_2+(1:Int))∧Y4_3 x4_0 x4_1 (x4_2+(1:Int))) (((0:Int)≤x4_2∧x4_2<(↑edges.length:Int))∧ ∀y11,edges[x4_2.toNat]? =some y11→X_r1_Add x4_0 y11.2 fun x13_0=>((0:Int)≤x4_2∧x4_2<(↑edges.length:Int))∧ ∀y14,edges[x4_2.toNat]? =some y14→(Sml ([]++x4_1).length∧Sml ([]++x4_1++[y14.2]).length∧InI (x4_2+(1:Int))∧Y4_3 x13_0 ([]++x4_1++[y14.2]) (x4_2+(1:Int)))∧Sml ([]++x4_1).length∧Sml ([]++x4_1++[y14.2]).length∧InI (x4_2+(1:Int))∧Y4_3 x13_0 ([]++x4_1++[y14.2]) (x4_2+(1:Int)))) (InI (x4_2+(1:Int))∧Y4_3 x4_0 x4_1 (x4_2+(1:Int)))) (Y0_2 x4_0 x4_1)) x0_0 (List.drop (Int.toNat (1:Int)) (List.take (↑x0_1.length:Int).toNat x0_1)) (0:Int)) (K x0_0)) [] [node]
def z1g (edges:List (Edg)) (node:ByteArray) (K:List (ByteArray)→Prop):Prop:=j7i q4h q59 edges node K
abbrev z5u:Type:=List (ByteArray)→List (Edg)→(List (ByteArray)→Prop)→Prop
def j2z (X_r9_Needs:j0r) (X_r1_Has:q6x) (X_r1_Add:q9w) (nodes:List (ByteArray)) (edges:List (Edg)) (K:List (ByteArray)→Prop):Prop:=Lp2 (fun x0_0 x0_1 Y0_2=>nodes.length≤(9223372036854775807:Nat)→Cnd (x0_1<(↑nodes.length:Int)) (((0:Int)≤x0_1∧x0_1<(↑nodes.length:Int))∧ ∀y2,nodes[x0_1.toNat]? =some y2→((0:Int)≤x0_1∧x0_1<(↑nodes.length:Int))∧ ∀y4,nodes[x0_1.toNat]? =some y4→X_r9_Needs edges y2 fun x6_0=>X_r1_Has x6_0 y4 fun x7_0=>Cnd (x7_0=true) (((0:Int)≤x0_1∧x0_1<(↑nodes.length:Int))∧ ∀y8,nodes[x0_1.toNat]? =some y8→X_r1_Add x0_0 y8 fun x10_0=>InI (x0_1+(1:Int))∧Y0_2 x10_0 (x0_1+(1:Int))) (InI (x0_1+(1:Int))∧Y0_2 x0_0 (x0_1+(1:Int)))) (K x0_0)) [] (0:Int)
def q89 (nodes:List (ByteArray)) (edges:List (Edg)) (K:List (ByteArray)→Prop):Prop:=j2z z1g q4h q59 nodes edges K
abbrev z5v:Type:=List (ByteArray)→List (Edg)→(ByteArray→Bool→Prop)→Prop
def j20 (X_r9_Cyclic:z5u) (nodes:List (ByteArray)) (edges:List (Edg)) (K:ByteArray→Bool→Prop):Prop:=X_r9_Cyclic nodes edges fun x0_0=>x0_0.length≤(9223372036854775807:Nat)→Cnd ((↑x0_0.length:Int)=(0:Int)) (K (ByteArray.mk (Array.mk [])) false) (((0:Int)≤(0:Int)∧(0:Int)<(↑x0_0.length:Int))∧ ∀y2,x0_0[Int.toNat (0:Int)]? =some y2→K y2 true)
def q9a (nodes:List (ByteArray)) (edges:List (Edg)) (K:ByteArray→Bool→Prop):Prop:=j20 q89 nodes edges K
abbrev q5o:Type:=Envt→ByteArray→(Int→Prop)→Prop
def q3h (v:Envt) (key:ByteArray) (K:Int→Prop):Prop:=Lp1 (fun x0_0 Y0_1=>v.4.length≤(9223372036854775807:Nat)→Cnd (x0_0<(↑v.4.length:Int)) (((0:Int)≤x0_0∧x0_0<(↑v.4.length:Int))∧ ∀y2,v.4[x0_0.toNat]? =some y2→Cnd (y2.1=key) (K x0_0) (InI (x0_0+(1:Int))∧Y0_1 (x0_0+(1:Int)))) (K (-1:Int))) (0:Int)
abbrev j0s:Type:=List (Decl)→Srv→(Int→Prop)→Prop
def j7j (X_r9_Type:z1z) (l:List (Decl)) (v:Srv) (K:Int→Prop):Prop:=Cnd (v.1=(0:Int)) (X_r9_Type l v.2 v.3 fun x0_0=>Cnd (x0_0=(0:Int)) (K (11:Int)) (Cnd (x0_0=(5:Int)) (K (8:Int)) (K (0:Int)))) (K (0:Int))
def z1h (l:List (Decl)) (v:Srv) (K:Int→Prop):Prop:=j7j q5m l v K
abbrev q8b:Type:=Envt→Flg→(Int→Prop)→Prop
def z10 (X_r11_Keys:q43) (X_r14_FlagOf:q5o) (X_r9_Expr:q3z) (X_r9_Serve:j0s) (X_r17_Unreachable:q17) (v:Envt) (f:Flg) (K:Int→Prop):Prop:=X_r11_Keys v.3 fun x0_0=>Lp2 (fun x1_0 x1_1 Y1_2=>f.6.length≤(9223372036854775807:Nat)→Cnd (x1_0<(↑f.6.length:Int)) (((0:Int)≤x1_0∧x1_0<(↑f.6.length:Int))∧ ∀y3,f.6[x1_0.toNat]? =some y3→X_r14_FlagOf (Envt.mk (Sett.mk v.1.1 v.1.2 v.1.3) v.2 v.3 v.4 v.5 v.6) y3.1 fun x5_0=>Cnd (x5_0<(0:Int)) (K (11:Int)) (((0:Int)≤x1_0∧x1_0<(↑f.6.length:Int))∧ ∀y6,f.6[x1_0.toNat]? =some y6→((0:Int)≤x5_0∧x5_0<(↑v.4.length:Int))∧ ∀y8,v.4[x5_0.toNat]? =some y8→y8.3.length≤(9223372036854775807:Nat)→Cnd ((↑y8.3.length:Int)<y6.2) (K (3:Int)) (InI (x1_0+(1:Int))∧Y1_2 (x1_0+(1:Int)) x1_1))) (Lp2 (fun x3_0 x3_1 Y3_2=>f.8.length≤(9223372036854775807:Nat)→Cnd (x3_0<(↑f.8.length:Int)) (((0:Int)≤x3_0∧x3_0<(↑f.8.length:Int))∧ ∀y5,f.8[x3_0.toNat]? =some y5→X_r9_Expr v.2 x3_1 (Ex.mk y5.2.1 y5.2.2 y5.2.3 y5.2.4 y5.2.5) fun x7_0=>Cnd (x7_0=(0:Int)) (((0:Int)≤x3_0∧x3_0<(↑f.8.length:Int))∧ ∀y8,f.8[x3_0.toNat]? =some y8→X_r9_Serve v.2 (Srv.mk y8.3.1 y8.3.2 y8.3.3 y8.3.4 y8.3.5) fun x10_0=>Cnd (x10_0=(0:Int)) (InI (x3_0+(1:Int))∧Y3_2 (x3_0+(1:Int)) x3_1) (K x10_0)) (K x7_0)) (X_r9_Serve v.2 (Srv.mk f.9.1 f.9.2 f.9.3 f.9.4 f.9.5) fun x5_0=>Cnd (x5_0=(0:Int)) (X_r17_Unreachable f.8 fun x6_0 _ x6_2=>Cnd (x6_2=true) (x6_0.length≤(9223372036854775807:Nat)→Cnd ((0:Int)<(↑x6_0.length:Int)) (K (13:Int)) (K (0:Int))) (K (19:Int))) (K x5_0))) (0:Int) x1_1)) (0:Int) x0_0
def q30 (v:Envt) (f:Flg) (K:Int→Prop):Prop:=z10 q3a q3h q4v z1h q1m v f K
abbrev q9x:Type:=Envt→(List (ByteArray)→Prop)→Prop
def q44 (v:Envt) (K:List (ByteArray)→Prop):Prop:=Lp2 (fun x0_0 x0_1 Y0_2=>v.4.length≤(9223372036854775807:Nat)→Cnd (x0_1<(↑v.4.length:Int)) (((0:Int)≤x0_1∧x0_1<(↑v.4.length:Int))∧ ∀y2,v.4[x0_1.toNat]? =some y2→Sml (x0_0++[y2.1]).length∧InI (x0_1+(1:Int))∧Y0_2 (x0_0++[y2.1]) (x0_1+(1:Int))) (K x0_0)) [] (0:Int)
abbrev q8c:Type:=Envt→(List (Edg)→Prop)→Prop
def q22 (v:Envt) (K:List (Edg)→Prop):Prop:=Lp2 (fun x0_0 x0_1 Y0_2=>v.4.length≤(9223372036854775807:Nat)→Cnd (x0_1<(↑v.4.length:Int)) (Lp2 (fun x2_0 x2_1 Y2_2=>((0:Int)≤x0_1∧x0_1<(↑v.4.length:Int))∧ ∀y3,v.4[x0_1.toNat]? =some y3→y3.6.length≤(9223372036854775807:Nat)→Cnd (x2_1<(↑y3.6.length:Int)) (((0:Int)≤x0_1∧x0_1<(↑v.4.length:Int))∧ ∀y6,v.4[x0_1.toNat]? =some y6→((0:Int)≤x0_1∧x0_1<(↑v.4.length:Int))∧ ∀y8,v.4[x0_1.toNat]? =some y8→((0:Int)≤x2_1∧x2_1<(↑y8.6.length:Int))∧ ∀y10,y8.6[x2_1.toNat]? =some y10→Sml (x2_0++[Edg.mk y6.1 y10.1]).length∧InI (x2_1+(1:Int))∧Y2_2 (x2_0++[Edg.mk y6.1 y10.1]) (x2_1+(1:Int))) (InI (x0_1+(1:Int))∧Y0_2 x2_0 (x0_1+(1:Int)))) x0_0 (0:Int)) (K x0_0)) [] (0:Int)
abbrev z2x:Type:=List (Spn)→List (Spn)→(List (Spn)→Prop)→Prop
def z78 (X_r14_Set:q3w) (X_r14_Spans:q1s) (a:List (Spn)) (b:List (Spn)) (K:List (Spn)→Prop):Prop:=X_r14_Set a fun x0_0=>X_r14_Set b fun x1_0=>Lp2 (fun x2_0 x2_1 Y2_2=>x2_1.length≤(9223372036854775807:Nat)→Cnd (x2_0<(↑x2_1.length:Int)) (((0:Int)≤x2_0∧x2_0<(↑x2_1.length:Int))∧ ∀y4,x2_1[x2_0.toNat]? =some y4→Cnd (y4=true) (((0:Int)≤x2_0∧x2_0<(↑x1_0.length:Int))∧ ∀y6,x1_0[x2_0.toNat]? =some y6→((0:Int)≤x2_0∧x2_0<(↑x2_1.length:Int))∧ ∀y8,x2_1[x2_0.toNat]? =some y8→InI (x2_0+(1:Int))∧Y2_2 (x2_0+(1:Int)) (x2_1.set x2_0.toNat y6)) (((0:Int)≤x2_0∧x2_0<(↑x2_1.length:Int))∧ ∀y6,x2_1[x2_0.toNat]? =some y6→InI (x2_0+(1:Int))∧Y2_2 (x2_0+(1:Int)) (x2_1.set x2_0.toNat false))) (X_r14_Spans x2_1 fun x4_0=>K x4_0)) (0:Int) x0_0
def q7o (a:List (Spn)) (b:List (Spn)) (K:List (Spn)→Prop):Prop:=z78 q2n q1b a b K
abbrev q3i:Type:=Envt→Int→(Int→Prop)→Prop
def q5p (X_r14_LayerOf:q2b) (X_r14_FlagOf:q5o) (X_r11_Keys:q43) (X_r9_Expr:q3z) (X_r14_Common:z2x) (v:Envt) (i:Int) (K:Int→Prop):Prop:=((0:Int)≤i∧i<(↑v.6.length:Int))∧ ∀y0,v.6[i.toNat]? =some y0→X_r14_LayerOf (Envt.mk (Sett.mk v.1.1 v.1.2 v.1.3) v.2 v.3 v.4 v.5 v.6) y0.2 fun x2_0=>X_r14_FlagOf (Envt.mk (Sett.mk v.1.1 v.1.2 v.1.3) v.2 v.3 v.4 v.5 v.6) y0.3 fun x3_0=>Cnd (x2_0<(0:Int)) (K (11:Int)) (Cnd (x3_0<(0:Int)) (K (11:Int)) (Lp1 (fun x4_0 Y4_1=>y0.7.length≤(9223372036854775807:Nat)→Cnd (x4_0<(↑y0.7.length:Int)) (((0:Int)≤x4_0∧x4_0<(↑y0.7.length:Int))∧ ∀y6,y0.7[x4_0.toNat]? =some y6→((0:Int)≤x3_0∧x3_0<(↑v.4.length:Int))∧ ∀y8,v.4[x3_0.toNat]? =some y8→y8.3.length≤(9223372036854775807:Nat)→Cnd ((↑y8.3.length:Int)<y6.3) (K (3:Int)) (InI (x4_0+(1:Int))∧Y4_1 (x4_0+(1:Int)))) (X_r11_Keys v.3 fun x6_0=>X_r9_Expr v.2 x6_0 (Ex.mk y0.8.1 y0.8.2 y0.8.3 y0.8.4 y0.8.5) fun x7_0=>Cnd (x7_0=(0:Int)) (Cnd (y0.5=(3:Int)) (K (0:Int)) (((0:Int)≤x2_0∧x2_0<(↑v.5.length:Int))∧ ∀y8,v.5[x2_0.toNat]? =some y8→Lp3 (fun x10_0 x10_1 x10_2 Y10_3=>Cnd (x10_1<i) (((0:Int)≤x10_1∧x10_1<(↑v.6.length:Int))∧ ∀y11,v.6[x10_1.toNat]? =some y11→Cnd (y11.2=y0.2) (Cnd (y11.5=(3:Int)) (InI (x10_1+(1:Int))∧Y10_3 x10_0 (x10_1+(1:Int)) x10_2) (Sml (x10_0++y11.6).length∧InI (x10_1+(1:Int))∧Y10_3 (x10_0++y11.6) (x10_1+(1:Int)) x10_2)) (InI (x10_1+(1:Int))∧Y10_3 x10_0 (x10_1+(1:Int)) x10_2)) (X_r14_Common y0.6 x10_0 fun x11_0=>x11_0.length≤(9223372036854775807:Nat)→Cnd ((0:Int)<(↑x11_0.length:Int)) (K (14:Int)) (Lp4 (fun x13_0 x13_1 x13_2 x13_3 Y13_4=>Cnd (x13_0<i) (Cnd (y0.5=(2:Int)) (((0:Int)≤x13_0∧x13_0<(↑v.6.length:Int))∧ ∀y14,v.6[x13_0.toNat]? =some y14→Cnd (y14.5=(2:Int)) (Cnd (y14.3=y0.3) (Cnd (y14.2=y0.2) (InI (x13_0+(1:Int))∧Y13_4 (x13_0+(1:Int)) x13_1 x13_2 x13_3) (K (14:Int))) (InI (x13_0+(1:Int))∧Y13_4 (x13_0+(1:Int)) x13_1 x13_2 x13_3)) (InI (x13_0+(1:Int))∧Y13_4 (x13_0+(1:Int)) x13_1 x13_2 x13_3)) (K (0:Int))) (K (0:Int))) (0:Int) x11_0 x10_0 x10_2))) [Spn.mk (0:Int) y8.4] (0:Int) x6_0)) (K x7_0))) (0:Int)))
def q1y (v:Envt) (i:Int) (K:Int→Prop):Prop:=q5p q1v q3h q3a q4v q7o v i K
abbrev q6a:Type:=Envt→(ByteArray→Int→Prop)→Prop
def q9b (X_r6_Environment:q6w) (X_r11_Keys:q43) (X_r9_Expr:q3z) (X_r11_Edges:z5t) (X_r17_least:z5v) (X_r17_flagError:q8b) (X_r17_FlagKeys:q9x) (X_r17_FlagNeeds:q8c) (X_r17_experimentError:q3i) (v:Envt) (K:ByteArray→Int→Prop):Prop:=X_r6_Environment (Envt.mk (Sett.mk v.1.1 v.1.2 v.1.3) v.2 v.3 v.4 v.5 v.6) fun x0_0=>Cnd (x0_0=(0:Int)) (X_r11_Keys v.3 fun x1_0=>Lp2 (fun x2_0 x2_1 Y2_2=>v.3.length≤(9223372036854775807:Nat)→Cnd (x2_0<(↑v.3.length:Int)) (((0:Int)≤x2_0∧x2_0<(↑v.3.length:Int))∧ ∀y4,v.3[x2_0.toNat]? =some y4→Cnd (y4.5.1=(0:Int)) (InI (x2_0+(1:Int))∧Y2_2 (x2_0+(1:Int)) x2_1) (((0:Int)≤x2_0∧x2_0<(↑v.3.length:Int))∧ ∀y6,v.3[x2_0.toNat]? =some y6→X_r9_Expr v.2 x2_1 (Ex.mk y6.5.1 y6.5.2 y6.5.3 y6.5.4 y6.5.5) fun x8_0=>Cnd (x8_0=(0:Int)) (InI (x2_0+(1:Int))∧Y2_2 (x2_0+(1:Int)) x2_1) (((0:Int)≤x2_0∧x2_0<(↑v.3.length:Int))∧ ∀y9,v.3[x2_0.toNat]? =some y9→(↑((ByteArray.mk (Array.mk [115,101,103,109,101,110,116,32])).size+y9.1.size):Int)≤(9223372036854775807:Int)∧K (ByteArray.mk (Array.mk [115,101,103,109,101,110,116,32])++y9.1) x8_0))) (X_r11_Edges v.3 fun x4_0=>X_r17_least x2_1 x4_0 fun x5_0 x5_1=>Cnd (x5_1=true) ((↑((ByteArray.mk (Array.mk [115,101,103,109,101,110,116,32])).size+x5_0.size):Int)≤(9223372036854775807:Int)∧K (ByteArray.mk (Array.mk [115,101,103,109,101,110,116,32])++x5_0) (12:Int)) (Lp3 (fun x6_0 x6_1 x6_2 Y6_3=>v.4.length≤(9223372036854775807:Nat)→Cnd (x6_0<(↑v.4.length:Int)) (((0:Int)≤x6_0∧x6_0<(↑v.4.length:Int))∧ ∀y8,v.4[x6_0.toNat]? =some y8→X_r17_flagError (Envt.mk (Sett.mk v.1.1 v.1.2 v.1.3) v.2 v.3 v.4 v.5 v.6) (Flg.mk y8.1 y8.2 y8.3 y8.4 y8.5 y8.6 y8.7 y8.8 (Srv.mk y8.9.1 y8.9.2 y8.9.3 y8.9.4 y8.9.5)) fun x10_0=>Cnd (x10_0=(0:Int)) (InI (x6_0+(1:Int))∧Y6_3 (x6_0+(1:Int)) x6_1 x6_2) (((0:Int)≤x6_0∧x6_0<(↑v.4.length:Int))∧ ∀y11,v.4[x6_0.toNat]? =some y11→(↑((ByteArray.mk (Array.mk [102,108,97,103,32])).size+y11.1.size):Int)≤(9223372036854775807:Int)∧K (ByteArray.mk (Array.mk [102,108,97,103,32])++y11.1) x10_0)) (X_r17_FlagKeys (Envt.mk (Sett.mk v.1.1 v.1.2 v.1.3) v.2 v.3 v.4 v.5 v.6) fun x8_0=>X_r17_FlagNeeds (Envt.mk (Sett.mk v.1.1 v.1.2 v.1.3) v.2 v.3 v.4 v.5 v.6) fun x9_0=>X_r17_least x8_0 x9_0 fun x10_0 x10_1=>Cnd (x10_1=true) ((↑((ByteArray.mk (Array.mk [102,108,97,103,32])).size+x10_0.size):Int)≤(9223372036854775807:Int)∧K (ByteArray.mk (Array.mk [102,108,97,103,32])++x10_0) (12:Int)) (Lp5 (fun x11_0 x11_1 x11_2 x11_3 x11_4 Y11_5=>v.6.length≤(9223372036854775807:Nat)→Cnd (x11_0<(↑v.6.length:Int)) (X_r17_experimentError (Envt.mk (Sett.mk v.1.1 v.1.2 v.1.3) v.2 v.3 v.4 v.5 v.6) x11_0 fun x13_0=>Cnd (x13_0=(0:Int)) (InI (x11_0+(1:Int))∧Y11_5 (x11_0+(1:Int)) x11_1 x11_2 x11_3 x11_4) (((0:Int)≤x11_0∧x11_0<(↑v.6.length:Int))∧ ∀y14,v.6[x11_0.toNat]? =some y14→(↑((ByteArray.mk (Array.mk [101,120,112,101,114,105,109,101,110,116,32])).size+y14.1.size):Int)≤(9223372036854775807:Int)∧K (ByteArray.mk (Array.mk [101,120,112,101,114,105,109,101,110,116,32])++y14.1) x13_0)) (K (ByteArray.mk (Array.mk [])) (0:Int))) (0:Int) x8_0 x9_0 x6_2 x6_1))) (0:Int) x2_1 x4_0))) (0:Int) x1_0) (K (ByteArray.mk (Array.mk [])) x0_0)
def q2v (v:Envt) (K:ByteArray→Int→Prop):Prop:=q9b q29 q3a q4v q88 q9a q30 q44 q22 q1y v K
abbrev z5w:Type:=Envt→(Bool→Prop)→Prop
def j21 (X_r17_Environment:q6a) (v:Envt) (K:Bool→Prop):Prop:=X_r17_Environment (Envt.mk (Sett.mk v.1.1 v.1.2 v.1.3) v.2 v.3 v.4 v.5 v.6) fun _ x0_1=>K (decide (x0_1=(0:Int)))
def q65 (v:Envt) (K:Bool→Prop):Prop:=j21 q2v v K
abbrev q8d:Type:=List (Int)→Int→Int→(Envt→Int→Prop)→Prop
def z11 (X_d_Declared:q1x) (X_d_segments:z2t) (X_d_Next:q0r) (X_d_keys:z5g) (X_d_Value:q6m) (X_d_Keys:z5h) (X_d_Serve:j4i) (X_d_segmentKeys:q73) (X_d_Expr:q51) (X_r17_Unreachable:q17) (X_d_layer:j4l) (X_d_Text:q50) (X_d_Split:z1p) (X_r14_Free:j0i) (X_d_Wide:q9t) (X_r14_Minus:q64) (X_r14_First:z5n) (X_r17_Valid:z5w) (list:List (Int)) (at_:Int) (now:Int) (K:Envt→Int→Prop):Prop:=X_d_Declared fun x0_0=>Jn1 (fun (x1_0:ByteArray×ByteArray×Int×Int×List Decl×Unit)=>X_d_segments list x1_0.snd.snd.snd.fst x1_0.fst x1_0.snd.fst x1_0.snd.snd.fst x1_0.snd.snd.snd.snd.fst [] [] [] [] fun x2_0 x2_1 x2_2 x2_3 x2_4 x2_5 x2_6 x2_7 x2_8=>X_d_Next list x2_0 (5:Int) fun x3_0 x3_1=>X_d_keys x3_0 [ByteArray.mk (Array.mk [102,97]),ByteArray.mk (Array.mk [102,98]),ByteArray.mk (Array.mk [102,99]),ByteArray.mk (Array.mk [102,100])] fun x4_0=>LpH (fun (x5_0:Int×Int×List Flg×List Seg×List Lay_×List Exper×Unit) Y5_1=>x4_0.length≤(9223372036854775807:Nat)→Cnd (x5_0.fst<(↑x4_0.length:Int)) (((0:Int)≤x5_0.fst∧x5_0.fst<(↑x4_0.length:Int))∧ ∀y7,x4_0[x5_0.fst.toNat]? =some y7→X_d_Next list x5_0.snd.fst (5:Int) fun x9_0 x9_1=>InI ((1:Int)+x9_0)∧X_d_Next list x9_1 (6:Int) fun x10_0 x10_1=>X_d_Next list x10_1 (4:Int) fun x11_0 x11_1=>InI ((1:Int)+x11_0)∧LpH (fun (x12_0:Int×Int×List Val×List Exper×List Lay_×List Flg×List Seg×Unit) (Y12_1:Int×Int×List Val×List Exper×List Lay_×List Flg×List Seg×Unit→Prop)=>Cnd (x12_0.fst<(1:Int)+x11_0) (X_d_Value list x12_0.snd.fst ((1:Int)+x9_0) fun x13_0 x13_1=>Sml (x12_0.snd.snd.fst++[x13_0]).length∧InI (x12_0.fst+(1:Int))∧Y12_1 (x12_0.fst+(1:Int),x13_1,x12_0.snd.snd.fst++[x13_0],x12_0.snd.snd.snd.fst,x12_0.snd.snd.snd.snd.fst,x12_0.snd.snd.snd.snd.snd.fst,x12_0.snd.snd.snd.snd.snd.snd.fst,())) (X_d_Next list x12_0.snd.fst ((1:Int)+x11_0) fun x13_0 x13_1=>InI ((1:Int)+x13_0)∧LpH (fun (x14_0:Int×List Prq×Int×List Seg×List Flg×List Lay_×List Exper×List Val×Unit) (Y14_1:Int×List Prq×Int×List Seg×List Flg×List Lay_×List Exper×List Val×Unit→Prop)=>x14_0.snd.snd.snd.snd.fst.length≤(9223372036854775807:Nat)→Cnd (x14_0.fst<(↑x14_0.snd.snd.snd.snd.fst.length:Int)) (X_d_Next list x14_0.snd.snd.fst (4:Int) fun x16_0 x16_1=>Cnd (x16_0=(1:Int)) (((0:Int)≤x14_0.fst∧x14_0.fst<(↑x14_0.snd.snd.snd.snd.fst.length:Int))∧ ∀y17,x14_0.snd.snd.snd.snd.fst[x14_0.fst.toNat]? =some y17→((0:Int)≤x14_0.fst∧x14_0.fst<(↑x14_0.snd.snd.snd.snd.fst.length:Int))∧ ∀y19,x14_0.snd.snd.snd.snd.fst[x14_0.fst.toNat]? =some y19→y19.3.length≤(9223372036854775807:Nat)→X_d_Next list x16_1 (↑y19.3.length:Int) fun x22_0 x22_1=>InI ((1:Int)+x22_0)∧Sml (x14_0.snd.fst++[Prq.mk y17.1 ((1:Int)+x22_0)]).length∧InI (x14_0.fst+(1:Int))∧Y14_1 (x14_0.fst+(1:Int),x14_0.snd.fst++[Prq.mk y17.1 ((1:Int)+x22_0)],x22_1,x14_0.snd.snd.snd.fst,x14_0.snd.snd.snd.snd.fst,x14_0.snd.snd.snd.snd.snd.fst,x14_0.snd.snd.snd.snd.snd.snd.fst,x14_0.snd.snd.snd.snd.snd.snd.snd.fst,())) (InI (x14_0.fst+(1:Int))∧Y14_1 (x14_0.fst+(1:Int),x14_0.snd.fst,x16_1,x14_0.snd.snd.snd.fst,x14_0.snd.snd.snd.snd.fst,x14_0.snd.snd.snd.snd.snd.fst,x14_0.snd.snd.snd.snd.snd.snd.fst,x14_0.snd.snd.snd.snd.snd.snd.snd.fst,()))) (LpH (fun (x16_0:Int×List Tgt×Int×List Val×List Exper×List Lay_×List Flg×List Seg×List Prq×Unit) (Y16_1:Int×List Tgt×Int×List Val×List Exper×List Lay_×List Flg×List Seg×List Prq×Unit→Prop)=>X_d_Next list x16_0.snd.snd.fst (3:Int) fun x17_0 x17_1=>Cnd (x16_0.fst<x17_0) (X_d_Next list x17_1 ((1:Int)+x11_0) fun x18_0 x18_1=>InI ((1:Int)+x18_0)∧X_d_Keys list x18_1 fun x19_0 x19_1=>Jn1 (fun (x20_0:ByteArray×Int×List ByteArray×List Prq×List Seg×List Flg×List Lay_×List Exper×List Val×List Tgt×Unit)=>x20_0.snd.snd.fst.length≤(9223372036854775807:Nat)→Cnd ((0:Int)<(↑x20_0.snd.snd.fst.length:Int)) (Sml (x20_0.snd.snd.snd.snd.snd.snd.snd.snd.snd.fst++[Tgt.mk x20_0.fst ((1:Int)+x18_0) x20_0.snd.snd.fst]).length∧InI (x16_0.fst+(1:Int))∧Y16_1 (x16_0.fst+(1:Int),x20_0.snd.snd.snd.snd.snd.snd.snd.snd.snd.fst++[Tgt.mk x20_0.fst ((1:Int)+x18_0) x20_0.snd.snd.fst],x20_0.snd.fst,x20_0.snd.snd.snd.snd.snd.snd.snd.snd.fst,x20_0.snd.snd.snd.snd.snd.snd.snd.fst,x20_0.snd.snd.snd.snd.snd.snd.fst,x20_0.snd.snd.snd.snd.snd.fst,x20_0.snd.snd.snd.snd.fst,x20_0.snd.snd.snd.fst,())) (InI (x16_0.fst+(1:Int))∧Y16_1 (x16_0.fst+(1:Int),x20_0.snd.snd.snd.snd.snd.snd.snd.snd.snd.fst,x20_0.snd.fst,x20_0.snd.snd.snd.snd.snd.snd.snd.snd.fst,x20_0.snd.snd.snd.snd.snd.snd.snd.fst,x20_0.snd.snd.snd.snd.snd.snd.fst,x20_0.snd.snd.snd.snd.snd.fst,x20_0.snd.snd.snd.snd.fst,x20_0.snd.snd.snd.fst,()))) fun (Y20_0:ByteArray×Int×List ByteArray×List Prq×List Seg×List Flg×List Lay_×List Exper×List Val×List Tgt×Unit→Prop)=>X_d_Next list x19_1 (4:Int) fun x21_0 x21_1=>Cnd (x21_0=(1:Int)) (Y20_0 (ByteArray.mk (Array.mk [100,101,118,105,99,101]),x21_1,x19_0,x16_0.snd.snd.snd.snd.snd.snd.snd.snd.fst,x16_0.snd.snd.snd.snd.snd.snd.snd.fst,x16_0.snd.snd.snd.snd.snd.snd.fst,x16_0.snd.snd.snd.snd.snd.fst,x16_0.snd.snd.snd.snd.fst,x16_0.snd.snd.snd.fst,x16_0.snd.fst,())) (Y20_0 (ByteArray.mk (Array.mk [117,115,101,114]),x21_1,x19_0,x16_0.snd.snd.snd.snd.snd.snd.snd.snd.fst,x16_0.snd.snd.snd.snd.snd.snd.snd.fst,x16_0.snd.snd.snd.snd.snd.snd.fst,x16_0.snd.snd.snd.snd.snd.fst,x16_0.snd.snd.snd.snd.fst,x16_0.snd.snd.snd.fst,x16_0.snd.fst,()))) (Jn1 (fun (x18_0:Int×List Rul×List ByteArray×List Prq×List Seg×List Flg×List Lay_×List Exper×List Val×List Tgt×Unit)=>X_d_Serve list x18_0.fst ((1:Int)+x11_0) fun x19_0 x19_1=>Sml (x18_0.snd.snd.snd.snd.snd.fst++[Flg.mk y7 ((1:Int)+x9_0) x18_0.snd.snd.snd.snd.snd.snd.snd.snd.fst (decide (x10_0<(5:Int))) ((1:Int)+x13_0) x18_0.snd.snd.snd.fst x18_0.snd.snd.snd.snd.snd.snd.snd.snd.snd.fst x18_0.snd.fst x19_0]).length∧InI (x5_0.fst+(1:Int))∧Y5_1 (x5_0.fst+(1:Int),x19_1,x18_0.snd.snd.snd.snd.snd.fst++[Flg.mk y7 ((1:Int)+x9_0) x18_0.snd.snd.snd.snd.snd.snd.snd.snd.fst (decide (x10_0<(5:Int))) ((1:Int)+x13_0) x18_0.snd.snd.snd.fst x18_0.snd.snd.snd.snd.snd.snd.snd.snd.snd.fst x18_0.snd.fst x19_0],x18_0.snd.snd.snd.snd.fst,x18_0.snd.snd.snd.snd.snd.snd.fst,x18_0.snd.snd.snd.snd.snd.snd.snd.fst,())) fun (Y18_0:Int×List Rul×List ByteArray×List Prq×List Seg×List Flg×List Lay_×List Exper×List Val×List Tgt×Unit→Prop)=>LpH (fun (x19_0:Int×Int×List Rul×List ByteArray×List Prq×List Seg×List Flg×List Lay_×List Exper×List Val×List Tgt×Unit) (Y19_1:Int×Int×List Rul×List ByteArray×List Prq×List Seg×List Flg×List Lay_×List Exper×List Val×List Tgt×Unit→Prop)=>X_d_Next list x19_0.snd.fst (5:Int) fun x20_0 x20_1=>Cnd (x19_0.fst<x20_0) (((0:Int)≤x19_0.fst∧x19_0.fst<(↑x19_0.snd.snd.snd.fst.length:Int))∧ ∀y21,x19_0.snd.snd.snd.fst[x19_0.fst.toNat]? =some y21→X_d_segmentKeys (Envt.mk (Sett.mk x2_1 x2_2 x2_3) x2_4 x19_0.snd.snd.snd.snd.snd.fst x19_0.snd.snd.snd.snd.snd.snd.fst x19_0.snd.snd.snd.snd.snd.snd.snd.fst x19_0.snd.snd.snd.snd.snd.snd.snd.snd.fst) fun x23_0=>X_d_Expr list x20_1 x23_0 (3:Int) fun x24_0 x24_1=>X_d_Serve list x24_1 ((1:Int)+x11_0) fun x25_0 x25_1=>Sml (x19_0.snd.snd.fst++[Rul.mk y21 (Ex.mk x24_0.1 x24_0.2 x24_0.3 x24_0.4 x24_0.5) x25_0]).length∧X_r17_Unreachable (x19_0.snd.snd.fst++[Rul.mk y21 (Ex.mk x24_0.1 x24_0.2 x24_0.3 x24_0.4 x24_0.5) x25_0]) fun x26_0 _ x26_2=>Cnd (x26_2=true) (x26_0.length≤(9223372036854775807:Nat)→Cnd ((0:Int)<(↑x26_0.length:Int)) ((x19_0.snd.snd.fst++[Rul.mk y21 (Ex.mk x24_0.1 x24_0.2 x24_0.3 x24_0.4 x24_0.5) x25_0]).length≤(9223372036854775807:Nat)→InI ((↑(x19_0.snd.snd.fst++[Rul.mk y21 (Ex.mk x24_0.1 x24_0.2 x24_0.3 x24_0.4 x24_0.5) x25_0]).length:Int) - (1:Int))∧((0:Int)≤(↑(x19_0.snd.snd.fst++[Rul.mk y21 (Ex.mk x24_0.1 x24_0.2 x24_0.3 x24_0.4 x24_0.5) x25_0]).length:Int) - (1:Int)∧(↑(x19_0.snd.snd.fst++[Rul.mk y21 (Ex.mk x24_0.1 x24_0.2 x24_0.3 x24_0.4 x24_0.5) x25_0]).length:Int) - (1:Int)≤(↑(x19_0.snd.snd.fst++[Rul.mk y21 (Ex.mk x24_0.1 x24_0.2 x24_0.3 x24_0.4 x24_0.5) x25_0]).length:Int))∧Y18_0 (x25_1,List.take ((↑(x19_0.snd.snd.fst++[Rul.mk y21 (Ex.mk x24_0.1 x24_0.2 x24_0.3 x24_0.4 x24_0.5) x25_0]).length:Int) - (1:Int)).toNat (x19_0.snd.snd.fst++[Rul.mk y21 (Ex.mk x24_0.1 x24_0.2 x24_0.3 x24_0.4 x24_0.5) x25_0]),x19_0.snd.snd.snd.fst,x19_0.snd.snd.snd.snd.fst,x19_0.snd.snd.snd.snd.snd.fst,x19_0.snd.snd.snd.snd.snd.snd.fst,x19_0.snd.snd.snd.snd.snd.snd.snd.fst,x19_0.snd.snd.snd.snd.snd.snd.snd.snd.fst,x19_0.snd.snd.snd.snd.snd.snd.snd.snd.snd.fst,x19_0.snd.snd.snd.snd.snd.snd.snd.snd.snd.snd.fst,())) (InI (x19_0.fst+(1:Int))∧Y19_1 (x19_0.fst+(1:Int),x25_1,x19_0.snd.snd.fst++[Rul.mk y21 (Ex.mk x24_0.1 x24_0.2 x24_0.3 x24_0.4 x24_0.5) x25_0],x19_0.snd.snd.snd.fst,x19_0.snd.snd.snd.snd.fst,x19_0.snd.snd.snd.snd.snd.fst,x19_0.snd.snd.snd.snd.snd.snd.fst,x19_0.snd.snd.snd.snd.snd.snd.snd.fst,x19_0.snd.snd.snd.snd.snd.snd.snd.snd.fst,x19_0.snd.snd.snd.snd.snd.snd.snd.snd.snd.fst,x19_0.snd.snd.snd.snd.snd.snd.snd.snd.snd.snd.fst,()))) ((x19_0.snd.snd.fst++[Rul.mk y21 (Ex.mk x24_0.1 x24_0.2 x24_0.3 x24_0.4 x24_0.5) x25_0]).length≤(9223372036854775807:Nat)→InI ((↑(x19_0.snd.snd.fst++[Rul.mk y21 (Ex.mk x24_0.1 x24_0.2 x24_0.3 x24_0.4 x24_0.5) x25_0]).length:Int) - (1:Int))∧((0:Int)≤(↑(x19_0.snd.snd.fst++[Rul.mk y21 (Ex.mk x24_0.1 x24_0.2 x24_0.3 x24_0.4 x24_0.5) x25_0]).length:Int) - (1:Int)∧(↑(x19_0.snd.snd.fst++[Rul.mk y21 (Ex.mk x24_0.1 x24_0.2 x24_0.3 x24_0.4 x24_0.5) x25_0]).length:Int) - (1:Int)≤(↑(x19_0.snd.snd.fst++[Rul.mk y21 (Ex.mk x24_0.1 x24_0.2 x24_0.3 x24_0.4 x24_0.5) x25_0]).length:Int))∧Y18_0 (x25_1,List.take ((↑(x19_0.snd.snd.fst++[Rul.mk y21 (Ex.mk x24_0.1 x24_0.2 x24_0.3 x24_0.4 x24_0.5) x25_0]).length:Int) - (1:Int)).toNat (x19_0.snd.snd.fst++[Rul.mk y21 (Ex.mk x24_0.1 x24_0.2 x24_0.3 x24_0.4 x24_0.5) x25_0]),x19_0.snd.snd.snd.fst,x19_0.snd.snd.snd.snd.fst,x19_0.snd.snd.snd.snd.snd.fst,x19_0.snd.snd.snd.snd.snd.snd.fst,x19_0.snd.snd.snd.snd.snd.snd.snd.fst,x19_0.snd.snd.snd.snd.snd.snd.snd.snd.fst,x19_0.snd.snd.snd.snd.snd.snd.snd.snd.snd.fst,x19_0.snd.snd.snd.snd.snd.snd.snd.snd.snd.snd.fst,()))) (Y18_0 (x20_1,x19_0.snd.snd.fst,x19_0.snd.snd.snd.fst,x19_0.snd.snd.snd.snd.fst,x19_0.snd.snd.snd.snd.snd.fst,x19_0.snd.snd.snd.snd.snd.snd.fst,x19_0.snd.snd.snd.snd.snd.snd.snd.fst,x19_0.snd.snd.snd.snd.snd.snd.snd.snd.fst,x19_0.snd.snd.snd.snd.snd.snd.snd.snd.snd.fst,x19_0.snd.snd.snd.snd.snd.snd.snd.snd.snd.snd.fst,()))) ((0:Int),x17_1,[],[ByteArray.mk (Array.mk [102,105,114,115,116]),ByteArray.mk (Array.mk [115,101,99,111,110,100]),ByteArray.mk (Array.mk [116,104,105,114,100]),ByteArray.mk (Array.mk [102,111,117,114,116,104])],x16_0.snd.snd.snd.snd.snd.snd.snd.snd.fst,x16_0.snd.snd.snd.snd.snd.snd.snd.fst,x16_0.snd.snd.snd.snd.snd.snd.fst,x16_0.snd.snd.snd.snd.snd.fst,x16_0.snd.snd.snd.snd.fst,x16_0.snd.snd.snd.fst,x16_0.snd.fst,()))) ((0:Int),[],x14_0.snd.snd.fst,x14_0.snd.snd.snd.snd.snd.snd.snd.fst,x14_0.snd.snd.snd.snd.snd.snd.fst,x14_0.snd.snd.snd.snd.snd.fst,x14_0.snd.snd.snd.snd.fst,x14_0.snd.snd.snd.fst,x14_0.snd.fst,()))) ((0:Int),[],x13_1,x12_0.snd.snd.snd.snd.snd.snd.fst,x12_0.snd.snd.snd.snd.snd.fst,x12_0.snd.snd.snd.snd.fst,x12_0.snd.snd.snd.fst,x12_0.snd.snd.fst,()))) ((0:Int),x11_1,[],x5_0.snd.snd.snd.snd.snd.fst,x5_0.snd.snd.snd.snd.fst,x5_0.snd.snd.fst,x5_0.snd.snd.snd.fst,())) (X_d_Next list x5_0.snd.fst (3:Int) fun x7_0 x7_1=>X_d_keys x7_0 [ByteArray.mk (Array.mk [108,97]),ByteArray.mk (Array.mk [108,98])] fun x8_0=>LpH (fun (x9_0:Int×Int×List Lay_×List Exper×List Seg×List Flg×Unit) (Y9_1:Int×Int×List Lay_×List Exper×List Seg×List Flg×Unit→Prop)=>x8_0.length≤(9223372036854775807:Nat)→Cnd (x9_0.fst<(↑x8_0.length:Int)) (((0:Int)≤x9_0.fst∧x9_0.fst<(↑x8_0.length:Int))∧ ∀y11,x8_0[x9_0.fst.toNat]? =some y11→X_d_layer list x9_0.snd.fst y11 fun x13_0 x13_1=>Sml (x9_0.snd.snd.fst++[x13_0]).length∧InI (x9_0.fst+(1:Int))∧Y9_1 (x9_0.fst+(1:Int),x13_1,x9_0.snd.snd.fst++[x13_0],x9_0.snd.snd.snd.fst,x9_0.snd.snd.snd.snd.fst,x9_0.snd.snd.snd.snd.snd.fst,())) (X_d_Next list x9_0.snd.fst (4:Int) fun x11_0 x11_1=>X_d_keys x11_0 [ByteArray.mk (Array.mk [120,97]),ByteArray.mk (Array.mk [120,98]),ByteArray.mk (Array.mk [120,99])] fun x12_0=>LpH (fun (x13_0:Int×Int×List Exper×List Flg×List Seg×List Lay_×Unit) (Y13_1:Int×Int×List Exper×List Flg×List Seg×List Lay_×Unit→Prop)=>x12_0.length≤(9223372036854775807:Nat)→Cnd (x13_0.fst<(↑x12_0.length:Int)) (x13_0.snd.snd.snd.fst.length≤(9223372036854775807:Nat)→Cnd ((0:Int)<(↑x13_0.snd.snd.snd.fst.length:Int)) (x13_0.snd.snd.snd.snd.snd.fst.length≤(9223372036854775807:Nat)→Cnd ((0:Int)<(↑x13_0.snd.snd.snd.snd.snd.fst.length:Int)) (((0:Int)≤x13_0.fst∧x13_0.fst<(↑x12_0.length:Int))∧ ∀y17,x12_0[x13_0.fst.toNat]? =some y17→x13_0.snd.snd.snd.fst.length≤(9223372036854775807:Nat)→X_d_Next list x13_0.snd.fst (↑x13_0.snd.snd.snd.fst.length:Int) fun x20_0 x20_1=>((0:Int)≤x20_0∧x20_0<(↑x13_0.snd.snd.snd.fst.length:Int))∧ ∀y21,x13_0.snd.snd.snd.fst[x20_0.toNat]? =some y21→x13_0.snd.snd.snd.snd.snd.fst.length≤(9223372036854775807:Nat)→y21.3.length≤(9223372036854775807:Nat)→X_d_Next list x20_1 (↑x13_0.snd.snd.snd.snd.snd.fst.length:Int) fun x25_0 x25_1=>((0:Int)≤x25_0∧x25_0<(↑x13_0.snd.snd.snd.snd.snd.fst.length:Int))∧ ∀y26,x13_0.snd.snd.snd.snd.snd.fst[x25_0.toNat]? =some y26→X_d_Text list x25_1 fun x28_0 x28_1=>X_d_Next list x28_1 (3:Int) fun x29_0 x29_1=>InI ((1:Int)+x29_0)∧X_d_Split list x29_1 (↑y21.3.length:Int) fun x30_0 x30_1=>Jn1 (fun (x31_0:Int×Int×List Rng×List Exper×List Lay_×List Flg×List Seg×Unit)=>Jn1 (fun (x32_0:Int×ByteArray×ByteArray×List Val×List Ex×Int×List Seg×List Flg×List Lay_×List Exper×List Rng×Unit)=>X_r14_Free (Envt.mk (Sett.mk x2_1 x2_2 x2_3) x2_4 x32_0.snd.snd.snd.snd.snd.snd.fst x32_0.snd.snd.snd.snd.snd.snd.snd.fst x32_0.snd.snd.snd.snd.snd.snd.snd.snd.fst x32_0.snd.snd.snd.snd.snd.snd.snd.snd.snd.fst) y26.1 now fun (x33_0:List Spn) (_:Int)=>X_d_Wide list x32_0.snd.snd.snd.snd.snd.fst (8000:Int) fun (x34_0 x34_1:Int)=>X_d_Wide list x34_1 (8000:Int) fun (x35_0 x35_1:Int)=>X_r14_Minus x33_0 [Spn.mk x34_0 x35_0] fun (x36_0:List Spn)=>X_d_Wide list x35_1 (7000:Int) fun (x37_0 x37_1:Int)=>X_r14_First x36_0 x37_0 fun (x38_0:List Spn)=>Sml (x32_0.snd.snd.snd.snd.snd.snd.snd.snd.snd.fst++[Exper.mk y17 y26.1 y21.1 x28_0 x31_0.fst x38_0 x32_0.snd.snd.snd.snd.snd.snd.snd.snd.snd.snd.fst (Ex.mk x32_0.fst x32_0.snd.fst x32_0.snd.snd.fst x32_0.snd.snd.snd.fst x32_0.snd.snd.snd.snd.fst)]).length∧X_r17_Valid (Envt.mk (Sett.mk x2_1 x2_2 x2_3) x2_4 x32_0.snd.snd.snd.snd.snd.snd.fst x32_0.snd.snd.snd.snd.snd.snd.snd.fst x32_0.snd.snd.snd.snd.snd.snd.snd.snd.fst (x32_0.snd.snd.snd.snd.snd.snd.snd.snd.snd.fst++[Exper.mk y17 y26.1 y21.1 x28_0 x31_0.fst x38_0 x32_0.snd.snd.snd.snd.snd.snd.snd.snd.snd.snd.fst (Ex.mk x32_0.fst x32_0.snd.fst x32_0.snd.snd.fst x32_0.snd.snd.snd.fst x32_0.snd.snd.snd.snd.fst)])) fun (x39_0:Bool)=>Cnd (x39_0=true) (InI (x13_0.fst+(1:Int))∧Y13_1 (x13_0.fst+(1:Int),x37_1,x32_0.snd.snd.snd.snd.snd.snd.snd.snd.snd.fst++[Exper.mk y17 y26.1 y21.1 x28_0 x31_0.fst x38_0 x32_0.snd.snd.snd.snd.snd.snd.snd.snd.snd.snd.fst (Ex.mk x32_0.fst x32_0.snd.fst x32_0.snd.snd.fst x32_0.snd.snd.snd.fst x32_0.snd.snd.snd.snd.fst)],x32_0.snd.snd.snd.snd.snd.snd.snd.fst,x32_0.snd.snd.snd.snd.snd.snd.fst,x32_0.snd.snd.snd.snd.snd.snd.snd.snd.fst,())) ((x32_0.snd.snd.snd.snd.snd.snd.snd.snd.snd.fst++[Exper.mk y17 y26.1 y21.1 x28_0 x31_0.fst x38_0 x32_0.snd.snd.snd.snd.snd.snd.snd.snd.snd.snd.fst (Ex.mk x32_0.fst x32_0.snd.fst x32_0.snd.snd.fst x32_0.snd.snd.snd.fst x32_0.snd.snd.snd.snd.fst)]).length≤(9223372036854775807:Nat)→InI ((↑(x32_0.snd.snd.snd.snd.snd.snd.snd.snd.snd.fst++[Exper.mk y17 y26.1 y21.1 x28_0 x31_0.fst x38_0 x32_0.snd.snd.snd.snd.snd.snd.snd.snd.snd.snd.fst (Ex.mk x32_0.fst x32_0.snd.fst x32_0.snd.snd.fst x32_0.snd.snd.snd.fst x32_0.snd.snd.snd.snd.fst)]).length:Int) - (1:Int))∧((0:Int)≤(↑(x32_0.snd.snd.snd.snd.snd.snd.snd.snd.snd.fst++[Exper.mk y17 y26.1 y21.1 x28_0 x31_0.fst x38_0 x32_0.snd.snd.snd.snd.snd.snd.snd.snd.snd.snd.fst (Ex.mk x32_0.fst x32_0.snd.fst x32_0.snd.snd.fst x32_0.snd.snd.snd.fst x32_0.snd.snd.snd.snd.fst)]).length:Int) - (1:Int)∧(↑(x32_0.snd.snd.snd.snd.snd.snd.snd.snd.snd.fst++[Exper.mk y17 y26.1 y21.1 x28_0 x31_0.fst x38_0 x32_0.snd.snd.snd.snd.snd.snd.snd.snd.snd.snd.fst (Ex.mk x32_0.fst x32_0.snd.fst x32_0.snd.snd.fst x32_0.snd.snd.snd.fst x32_0.snd.snd.snd.snd.fst)]).length:Int) - (1:Int)≤(↑(x32_0.snd.snd.snd.snd.snd.snd.snd.snd.snd.fst++[Exper.mk y17 y26.1 y21.1 x28_0 x31_0.fst x38_0 x32_0.snd.snd.snd.snd.snd.snd.snd.snd.snd.snd.fst (Ex.mk x32_0.fst x32_0.snd.fst x32_0.snd.snd.fst x32_0.snd.snd.snd.fst x32_0.snd.snd.snd.snd.fst)]).length:Int))∧InI (x13_0.fst+(1:Int))∧Y13_1 (x13_0.fst+(1:Int),x37_1,List.take ((↑(x32_0.snd.snd.snd.snd.snd.snd.snd.snd.snd.fst++[Exper.mk y17 y26.1 y21.1 x28_0 x31_0.fst x38_0 x32_0.snd.snd.snd.snd.snd.snd.snd.snd.snd.snd.fst (Ex.mk x32_0.fst x32_0.snd.fst x32_0.snd.snd.fst x32_0.snd.snd.snd.fst x32_0.snd.snd.snd.snd.fst)]).length:Int) - (1:Int)).toNat (x32_0.snd.snd.snd.snd.snd.snd.snd.snd.snd.fst++[Exper.mk y17 y26.1 y21.1 x28_0 x31_0.fst x38_0 x32_0.snd.snd.snd.snd.snd.snd.snd.snd.snd.snd.fst (Ex.mk x32_0.fst x32_0.snd.fst x32_0.snd.snd.fst x32_0.snd.snd.snd.fst x32_0.snd.snd.snd.snd.fst)]),x32_0.snd.snd.snd.snd.snd.snd.snd.fst,x32_0.snd.snd.snd.snd.snd.snd.fst,x32_0.snd.snd.snd.snd.snd.snd.snd.snd.fst,()))) fun (Y32_0:Int×ByteArray×ByteArray×List Val×List Ex×Int×List Seg×List Flg×List Lay_×List Exper×List Rng×Unit→Prop)=>X_d_Next list x31_0.snd.fst (2:Int) fun (x33_0 x33_1:Int)=>Cnd (x33_0=(1:Int)) (X_d_segmentKeys (Envt.mk (Sett.mk x2_1 x2_2 x2_3) x2_4 x31_0.snd.snd.snd.snd.snd.snd.fst x31_0.snd.snd.snd.snd.snd.fst x31_0.snd.snd.snd.snd.fst x31_0.snd.snd.snd.fst) fun (x34_0:List ByteArray)=>X_d_Expr list x33_1 x34_0 (2:Int) fun (x35_0:Ex) (x35_1:Int)=>Y32_0 (x35_0.1,x35_0.2,x35_0.3,x35_0.4,x35_0.5,x35_1,x31_0.snd.snd.snd.snd.snd.snd.fst,x31_0.snd.snd.snd.snd.snd.fst,x31_0.snd.snd.snd.snd.fst,x31_0.snd.snd.snd.fst,x31_0.snd.snd.fst,())) (Y32_0 ((1:Int),ByteArray.mk (Array.mk []),ByteArray.mk (Array.mk []),[],[],x33_1,x31_0.snd.snd.snd.snd.snd.snd.fst,x31_0.snd.snd.snd.snd.snd.fst,x31_0.snd.snd.snd.snd.fst,x31_0.snd.snd.snd.fst,x31_0.snd.snd.fst,()))) fun (Y31_0:Int×Int×List Rng×List Exper×List Lay_×List Flg×List Seg×Unit→Prop)=>Cnd ((1:Int)+x29_0=(1:Int)) (X_d_Next list x30_1 (2:Int) fun x32_0 x32_1=>Cnd (x32_0=(0:Int)) (Y31_0 ((2:Int),x32_1,x30_0,x13_0.snd.snd.fst,x13_0.snd.snd.snd.snd.snd.fst,x13_0.snd.snd.snd.fst,x13_0.snd.snd.snd.snd.fst,())) (Y31_0 ((1:Int)+x29_0,x32_1,x30_0,x13_0.snd.snd.fst,x13_0.snd.snd.snd.snd.snd.fst,x13_0.snd.snd.snd.fst,x13_0.snd.snd.snd.snd.fst,()))) (Y31_0 ((1:Int)+x29_0,x30_1,x30_0,x13_0.snd.snd.fst,x13_0.snd.snd.snd.snd.snd.fst,x13_0.snd.snd.snd.fst,x13_0.snd.snd.snd.snd.fst,()))) (X_r17_Valid (Envt.mk (Sett.mk x2_1 x2_2 x2_3) x2_4 x13_0.snd.snd.snd.snd.fst x13_0.snd.snd.snd.fst x13_0.snd.snd.snd.snd.snd.fst x13_0.snd.snd.fst) fun x17_0=>Cnd (x17_0=true) (K (Envt.mk (Sett.mk x2_1 x2_2 x2_3) x2_4 x13_0.snd.snd.snd.snd.fst x13_0.snd.snd.snd.fst x13_0.snd.snd.snd.snd.snd.fst x13_0.snd.snd.fst) x13_0.snd.fst) (X_d_Declared fun x18_0=>K (Envt.mk (Sett.mk (ByteArray.mk (Array.mk [])) (ByteArray.mk (Array.mk [])) (0:Int)) x18_0 [] [] [] []) x13_0.snd.fst))) (X_r17_Valid (Envt.mk (Sett.mk x2_1 x2_2 x2_3) x2_4 x13_0.snd.snd.snd.snd.fst x13_0.snd.snd.snd.fst x13_0.snd.snd.snd.snd.snd.fst x13_0.snd.snd.fst) fun x16_0=>Cnd (x16_0=true) (K (Envt.mk (Sett.mk x2_1 x2_2 x2_3) x2_4 x13_0.snd.snd.snd.snd.fst x13_0.snd.snd.snd.fst x13_0.snd.snd.snd.snd.snd.fst x13_0.snd.snd.fst) x13_0.snd.fst) (X_d_Declared fun x17_0=>K (Envt.mk (Sett.mk (ByteArray.mk (Array.mk [])) (ByteArray.mk (Array.mk [])) (0:Int)) x17_0 [] [] [] []) x13_0.snd.fst))) (X_r17_Valid (Envt.mk (Sett.mk x2_1 x2_2 x2_3) x2_4 x13_0.snd.snd.snd.snd.fst x13_0.snd.snd.snd.fst x13_0.snd.snd.snd.snd.snd.fst x13_0.snd.snd.fst) fun x15_0=>Cnd (x15_0=true) (K (Envt.mk (Sett.mk x2_1 x2_2 x2_3) x2_4 x13_0.snd.snd.snd.snd.fst x13_0.snd.snd.snd.fst x13_0.snd.snd.snd.snd.snd.fst x13_0.snd.snd.fst) x13_0.snd.fst) (X_d_Declared fun x16_0=>K (Envt.mk (Sett.mk (ByteArray.mk (Array.mk [])) (ByteArray.mk (Array.mk [])) (0:Int)) x16_0 [] [] [] []) x13_0.snd.fst))) ((0:Int),x11_1,x9_0.snd.snd.snd.fst,x9_0.snd.snd.snd.snd.snd.fst,x9_0.snd.snd.snd.snd.fst,x9_0.snd.snd.fst,()))) ((0:Int),x7_1,x5_0.snd.snd.snd.snd.fst,x5_0.snd.snd.snd.snd.snd.fst,x5_0.snd.snd.snd.fst,x5_0.snd.snd.fst,()))) ((0:Int),x3_1,x2_6,x2_5,x2_7,x2_8,())) fun Y1_0=>X_d_Next list at_ (2:Int) fun x2_0 x2_1=>Cnd (x2_0=(1:Int)) (X_d_Text list x2_1 fun x3_0 x3_1=>X_d_Wide list x3_1 (2500:Int) fun x4_0 x4_1=>Y1_0 (x3_0,ByteArray.mk (Array.mk [117,115,101,114]),x4_0,x4_1,x0_0,())) (Y1_0 (ByteArray.mk (Array.mk []),ByteArray.mk (Array.mk []),(0:Int),x2_1,x0_0,()))
def q31 (list:List (Int)) (at_:Int) (now:Int) (K:Envt→Int→Prop):Prop:=z11 q09 q7h q0o z0u q3f z0v z4g q2y q5a q1m z4k q4b q74 z1c q6r q4f q82 q65 list at_ now K
abbrev q4i:Type:=Int→(Bool→Prop)→Prop
def q2c (op:Int) (K:Bool→Prop):Prop:=Cnd ((6:Int)≤op) (K (decide (op≤(15:Int)))) (K false)
abbrev q0v:Type:=List (ByteArray)→List (ByteArray)→(Bool→Prop)→Prop
def q0k (s1:List (ByteArray)) (s2:List (ByteArray)) (K:Bool→Prop):Prop:=s1.length≤(9223372036854775807:Nat)→s2.length≤(9223372036854775807:Nat)→Cnd ((↑s1.length:Int)=(↑s2.length:Int)) (s1.length≤(9223372036854775807:Nat)→Lp1 (fun x3_0 Y3_1=>Cnd (x3_0<(↑s1.length:Int)) (((0:Int)≤x3_0∧x3_0<(↑s1.length:Int))∧ ∀y4,s1[x3_0.toNat]? =some y4→((0:Int)≤x3_0∧x3_0<(↑s2.length:Int))∧ ∀y6,s2[x3_0.toNat]? =some y6→Cnd (y4=y6) (InI (x3_0+(1:Int))∧Y3_1 (x3_0+(1:Int))) (K false)) (K true)) (0:Int)) (K false)
abbrev z2y:Type:=Val→Val→(Bool→Prop)→Prop
def z79 (X_slices_Equal_string_string_:q0v) (a:Val) (b:Val) (K:Bool→Prop):Prop:=Cnd (a.1=b.1) (Cnd (a.2=b.2) (Cnd (a.3=b.3) (X_slices_Equal_string_string_ a.4 b.4 fun x0_0=>K x0_0) (K false)) (K false)) (K false)
def q7p (a:Val) (b:Val) (K:Bool→Prop):Prop:=z79 q0k a b K
abbrev q66:Type:=Ex→Ex→(Bool→Prop)→Prop
def j22 (X_same_Value:z2y) (X:q66) (a:Ex) (b:Ex) (K:Bool→Prop):Prop:=Cnd (a.1=b.1) (Cnd (a.2=b.2) (Cnd (a.3=b.3) (a.4.length≤(9223372036854775807:Nat)→b.4.length≤(9223372036854775807:Nat)→Cnd ((↑a.4.length:Int)=(↑b.4.length:Int)) (a.4.length≤(9223372036854775807:Nat)→Lp1 (fun x3_0 Y3_1=>Cnd (x3_0<(↑a.4.length:Int)) (((0:Int)≤x3_0∧x3_0<(↑a.4.length:Int))∧ ∀y4,a.4[x3_0.toNat]? =some y4→((0:Int)≤x3_0∧x3_0<(↑b.4.length:Int))∧ ∀y6,b.4[x3_0.toNat]? =some y6→X_same_Value y4 y6 fun x8_0=>Cnd (x8_0=true) (InI (x3_0+(1:Int))∧Y3_1 (x3_0+(1:Int))) (K false)) (a.5.length≤(9223372036854775807:Nat)→b.5.length≤(9223372036854775807:Nat)→Cnd ((↑a.5.length:Int)=(↑b.5.length:Int)) (a.5.length≤(9223372036854775807:Nat)→Lp1 (fun x7_0 Y7_1=>Cnd (x7_0<(↑a.5.length:Int)) (((0:Int)≤x7_0∧x7_0<(↑a.5.length:Int))∧ ∀y8,a.5[x7_0.toNat]? =some y8→((0:Int)≤x7_0∧x7_0<(↑b.5.length:Int))∧ ∀y10,b.5[x7_0.toNat]? =some y10→X (Ex.mk y8.1 y8.2 y8.3 y8.4 y8.5) (Ex.mk y10.1 y10.2 y10.3 y10.4 y10.5) fun x12_0=>Cnd (x12_0=true) (InI (x7_0+(1:Int))∧Y7_1 (x7_0+(1:Int))) (K false)) (K true)) (0:Int)) (K false))) (0:Int)) (K false)) (K false)) (K false)) (K false)
def q67 (a:Ex) (b:Ex) (K:Bool→Prop):Prop:= ∀X:q66,(∀a b K,j22 q7p X a b K→X a b K)→X a b K
abbrev q3o:Type:=List (Ex)→Ex→(List (Ex)→Prop)→Prop
def z3s (X_clause_test:q4i) (X_same_Expr:q66) (X:q3o) (l:List (Ex)) (e:Ex) (K:List (Ex)→Prop):Prop:=Jn1 (fun x0_0=>e.5.length≤(9223372036854775807:Nat)→Lp2 (fun x2_0 x2_1 Y2_2=>Cnd (x2_1<(↑e.5.length:Int)) (((0:Int)≤x2_1∧x2_1<(↑e.5.length:Int))∧ ∀y3,e.5[x2_1.toNat]? =some y3→X x2_0 (Ex.mk y3.1 y3.2 y3.3 y3.4 y3.5) fun x5_0=>InI (x2_1+(1:Int))∧Y2_2 x5_0 (x2_1+(1:Int))) (K x2_0)) x0_0 (0:Int)) fun Y0_0=>X_clause_test e.1 fun x1_0=>Cnd (x1_0=true) (l.length≤(9223372036854775807:Nat)→Lp1 (fun x3_0 Y3_1=>Cnd (x3_0<(↑l.length:Int)) (((0:Int)≤x3_0∧x3_0<(↑l.length:Int))∧ ∀y4,l[x3_0.toNat]? =some y4→X_same_Expr (Ex.mk y4.1 y4.2 y4.3 y4.4 y4.5) (Ex.mk e.1 e.2 e.3 e.4 e.5) fun x6_0=>Cnd (x6_0=true) (Cnd ((0:Int)≤x3_0) (Y0_0 l) (Sml (l++[Ex.mk e.1 e.2 e.3 e.4 e.5]).length∧Y0_0 (l++[Ex.mk e.1 e.2 e.3 e.4 e.5]))) (InI (x3_0+(1:Int))∧Y3_1 (x3_0+(1:Int)))) (Cnd ((0:Int)≤(-1:Int)) (Y0_0 l) (Sml (l++[Ex.mk e.1 e.2 e.3 e.4 e.5]).length∧Y0_0 (l++[Ex.mk e.1 e.2 e.3 e.4 e.5])))) (0:Int)) (Cnd (e.1=(5:Int)) (l.length≤(9223372036854775807:Nat)→Lp1 (fun x3_0 Y3_1=>Cnd (x3_0<(↑l.length:Int)) (((0:Int)≤x3_0∧x3_0<(↑l.length:Int))∧ ∀y4,l[x3_0.toNat]? =some y4→X_same_Expr (Ex.mk y4.1 y4.2 y4.3 y4.4 y4.5) (Ex.mk e.1 e.2 e.3 e.4 e.5) fun x6_0=>Cnd (x6_0=true) (Cnd ((0:Int)≤x3_0) (Y0_0 l) (Sml (l++[Ex.mk e.1 e.2 e.3 e.4 e.5]).length∧Y0_0 (l++[Ex.mk e.1 e.2 e.3 e.4 e.5]))) (InI (x3_0+(1:Int))∧Y3_1 (x3_0+(1:Int)))) (Cnd ((0:Int)≤(-1:Int)) (Y0_0 l) (Sml (l++[Ex.mk e.1 e.2 e.3 e.4 e.5]).length∧Y0_0 (l++[Ex.mk e.1 e.2 e.3 e.4 e.5])))) (0:Int)) (Y0_0 l))
def q45 (l:List (Ex)) (e:Ex) (K:List (Ex)→Prop):Prop:= ∀X:q3o,(∀l e K,z3s q2c q67 X l e K→X l e K)→X l e K
abbrev q2d:Type:=Val→(Val→Prop)→Prop
def q1n (v:Val) (K:Val→Prop):Prop:= ∀n0,(n0=true→v.4=[])→Cnd (n0=true) (K (Val.mk v.1 v.2 v.3 [])) (Sml ([]++v.4).length∧K (Val.mk v.1 v.2 v.3 ([]++v.4)))
abbrev q5q:Type:=Ex→(Ex→Prop)→Prop
def z8a (X_clone_Value:q2d) (X:q5q) (e:Ex) (K:Ex→Prop):Prop:=e.4.length≤(9223372036854775807:Nat)→((0:Int)≤(0:Int)∧(0:Int)≤(↑e.4.length:Int)∧Sml (↑e.4.length:Int).toNat)∧(e.4.length≤(9223372036854775807:Nat)→Lp2 (fun x2_0 x2_1 Y2_2=>Cnd (x2_1<(↑e.4.length:Int)) (((0:Int)≤x2_1∧x2_1<(↑e.4.length:Int))∧ ∀y3,e.4[x2_1.toNat]? =some y3→X_clone_Value y3 fun x5_0=>Sml (x2_0++[x5_0]).length∧InI (x2_1+(1:Int))∧Y2_2 (x2_0++[x5_0]) (x2_1+(1:Int))) (e.5.length≤(9223372036854775807:Nat)→((0:Int)≤(0:Int)∧(0:Int)≤(↑e.5.length:Int)∧Sml (↑e.5.length:Int).toNat)∧(e.5.length≤(9223372036854775807:Nat)→Lp2 (fun x5_0 x5_1 Y5_2=>Cnd (x5_1<(↑e.5.length:Int)) (((0:Int)≤x5_1∧x5_1<(↑e.5.length:Int))∧ ∀y6,e.5[x5_1.toNat]? =some y6→X (Ex.mk y6.1 y6.2 y6.3 y6.4 y6.5) fun x8_0=>Sml (x5_0++[Ex.mk x8_0.1 x8_0.2 x8_0.3 x8_0.4 x8_0.5]).length∧InI (x5_1+(1:Int))∧Y5_2 (x5_0++[Ex.mk x8_0.1 x8_0.2 x8_0.3 x8_0.4 x8_0.5]) (x5_1+(1:Int))) (K (Ex.mk e.1 e.2 e.3 x2_0 x5_0))) (List.replicate (Int.toNat (0:Int)) (Ex.mk (0:Int) (ByteArray.mk (Array.mk [])) (ByteArray.mk (Array.mk [])) [] [])) (0:Int)))) (List.replicate (Int.toNat (0:Int)) (Val.mk (0:Int) (0:Int) (ByteArray.mk (Array.mk [])) [])) (0:Int))
def q7q (e:Ex) (K:Ex→Prop):Prop:= ∀X:q5q,(∀e K,z8a q1n X e K→X e K)→X e K
abbrev q9y:Type:=Ex→(List (Ex)→Prop)→Prop
def z3t (X_clause_atoms:q3o) (X_clone_Expr:q5q) (e:Ex) (K:List (Ex)→Prop):Prop:=X_clause_atoms [] (Ex.mk e.1 e.2 e.3 e.4 e.5) fun x0_0=>x0_0.length≤(9223372036854775807:Nat)→((0:Int)≤(0:Int)∧(0:Int)≤(↑x0_0.length:Int)∧Sml (↑x0_0.length:Int).toNat)∧(x0_0.length≤(9223372036854775807:Nat)→Lp2 (fun x3_0 x3_1 Y3_2=>Cnd (x3_1<(↑x0_0.length:Int)) (((0:Int)≤x3_1∧x3_1<(↑x0_0.length:Int))∧ ∀y4,x0_0[x3_1.toNat]? =some y4→X_clone_Expr (Ex.mk y4.1 y4.2 y4.3 y4.4 y4.5) fun x6_0=>Sml (x3_0++[Ex.mk x6_0.1 x6_0.2 x6_0.3 x6_0.4 x6_0.5]).length∧InI (x3_1+(1:Int))∧Y3_2 (x3_0++[Ex.mk x6_0.1 x6_0.2 x6_0.3 x6_0.4 x6_0.5]) (x3_1+(1:Int))) (K x3_0)) (List.replicate (Int.toNat (0:Int)) (Ex.mk (0:Int) (ByteArray.mk (Array.mk [])) (ByteArray.mk (Array.mk [])) [] [])) (0:Int))
def q6p (e:Ex) (K:List (Ex)→Prop):Prop:=z3t q45 q7q e K
abbrev q0w:Type:=List (ByteArray)→(List (ByteArray)→Prop)→Prop
def q0p (x:List (ByteArray)) (K:List (ByteArray)→Prop):Prop:=K (srt x)
abbrev q1o:Type:=List (ByteArray)→(List (ByteArray)→Prop)→Prop
def q07 (s:List (ByteArray)) (K:List (ByteArray)→Prop):Prop:=K (cpt s)
abbrev q6y:Type:=Ex→(List (ByteArray)→Prop)→Prop
def z0j (X_clause_Atoms:q9y) (X_slices_Sort_string_string_:q0w) (X_slices_Compact_string_string_:q1o) (e:Ex) (K:List (ByteArray)→Prop):Prop:=X_clause_Atoms (Ex.mk e.1 e.2 e.3 e.4 e.5) fun x0_0=>x0_0.length≤(9223372036854775807:Nat)→Lp2 (fun x2_0 x2_1 Y2_2=>Cnd (x2_1<(↑x0_0.length:Int)) (((0:Int)≤x2_1∧x2_1<(↑x0_0.length:Int))∧ ∀y3,x0_0[x2_1.toNat]? =some y3→Cnd (y3.1=(5:Int)) (Sml (x2_0++[y3.3]).length∧InI (x2_1+(1:Int))∧Y2_2 (x2_0++[y3.3]) (x2_1+(1:Int))) (InI (x2_1+(1:Int))∧Y2_2 x2_0 (x2_1+(1:Int)))) (X_slices_Sort_string_string_ x2_0 fun x3_0=>X_slices_Compact_string_string_ x3_0 fun x4_0=>K x4_0)) [] (0:Int)
def q3b (e:Ex) (K:List (ByteArray)→Prop):Prop:=z0j q6p q0p q07 e K
abbrev z00:Type:=List (ByteArray)→List (Edg)→(List (ByteArray)→Int→Prop)→Prop
def P_graph_Order (nodes:List (ByteArray)) (edges:List (Edg)) (K:List (ByteArray)→Int→Prop):Prop:=Go.Fl.P_graph_Order nodes (edges.map fun e=>(e.1,e.2)) K
abbrev q8e:Type:=List (Seg)→(List (ByteArray)→Int→Prop)→Prop
def z13 (X_segment_Refers:q6y) (X_graph_Order:z00) (l:List (Seg)) (K:List (ByteArray)→Int→Prop):Prop:=l.length≤(9223372036854775807:Nat)→Lp3 (fun x1_0 x1_1 x1_2 Y1_3=>Cnd (x1_2<(↑l.length:Int)) (((0:Int)≤x1_2∧x1_2<(↑l.length:Int))∧ ∀y2,l[x1_2.toNat]? =some y2→Sml (x1_0++[y2.1]).length∧X_segment_Refers (Ex.mk y2.5.1 y2.5.2 y2.5.3 y2.5.4 y2.5.5) fun x4_0=>x4_0.length≤(9223372036854775807:Nat)→Lp2 (fun x6_0 x6_1 Y6_2=>Cnd (x6_1<(↑x4_0.length:Int)) (((0:Int)≤x6_1∧x6_1<(↑x4_0.length:Int))∧ ∀y7,x4_0[x6_1.toNat]? =some y7→Sml (x6_0++[Edg.mk y2.1 y7]).length∧InI (x6_1+(1:Int))∧Y6_2 (x6_0++[Edg.mk y2.1 y7]) (x6_1+(1:Int))) (InI (x1_2+(1:Int))∧Y1_3 (x1_0++[y2.1]) x6_0 (x1_2+(1:Int)))) x1_1 (0:Int)) (X_graph_Order x1_0 x1_1 fun x2_0 x2_1=>K x2_0 x2_1)) [] [] (0:Int)
def q32 (l:List (Seg)) (K:List (ByteArray)→Int→Prop):Prop:=z13 q3b P_graph_Order l K
abbrev q23:Type:=Subj→ByteArray→(Int→Prop)→Prop
def q1u (s:Subj) (kind:ByteArray) (K:Int→Prop):Prop:=s.1.length≤(9223372036854775807:Nat)→Lp1 (fun x1_0 Y1_1=>Cnd (x1_0<(↑s.1.length:Int)) (((0:Int)≤x1_0∧x1_0<(↑s.1.length:Int))∧ ∀y2,s.1[x1_0.toNat]? =some y2→Cnd (y2.1=kind) (K x1_0) (InI (x1_0+(1:Int))∧Y1_1 (x1_0+(1:Int)))) (K (-1:Int))) (0:Int)
abbrev q6b:Type:=Attr→(Attr→Prop)→Prop
def q9c (X_clone_Value:q2d) (a:Attr) (K:Attr→Prop):Prop:=X_clone_Value (Val.mk a.2.1 a.2.2 a.2.3 a.2.4) fun x0_0=>K (Attr.mk a.1 x0_0)
def q2w (a:Attr) (K:Attr→Prop):Prop:=q9c q1n a K
abbrev q8f:Type:=Ctxt→(Ctxt→Prop)→Prop
def z14 (X_clone_Attribute:q6b) (c:Ctxt) (K:Ctxt→Prop):Prop:=c.3.length≤(9223372036854775807:Nat)→((0:Int)≤(0:Int)∧(0:Int)≤(↑c.3.length:Int)∧Sml (↑c.3.length:Int).toNat)∧(c.3.length≤(9223372036854775807:Nat)→Lp2 (fun x2_0 x2_1 Y2_2=>Cnd (x2_1<(↑c.3.length:Int)) (((0:Int)≤x2_1∧x2_1<(↑c.3.length:Int))∧ ∀y3,c.3[x2_1.toNat]? =some y3→X_clone_Attribute (Attr.mk y3.1 (Val.mk y3.2.1 y3.2.2 y3.2.3 y3.2.4)) fun x5_0=>Sml (x2_0++[Attr.mk x5_0.1 (Val.mk x5_0.2.1 x5_0.2.2 x5_0.2.3 x5_0.2.4)]).length∧InI (x2_1+(1:Int))∧Y2_2 (x2_0++[Attr.mk x5_0.1 (Val.mk x5_0.2.1 x5_0.2.2 x5_0.2.3 x5_0.2.4)]) (x2_1+(1:Int))) (K (Ctxt.mk c.1 c.2 x2_0))) (List.replicate (Int.toNat (0:Int)) (Attr.mk (ByteArray.mk (Array.mk [])) (Val.mk (0:Int) (0:Int) (ByteArray.mk (Array.mk [])) []))) (0:Int))
def q33 (c:Ctxt) (K:Ctxt→Prop):Prop:=z14 q2w c K
abbrev q9z:Type:=Subj→ByteArray→(Ctxt→Bool→Prop)→Prop
def z3u (X_subject_index:q23) (X_clone_Context:q8f) (s:Subj) (kind:ByteArray) (K:Ctxt→Bool→Prop):Prop:=X_subject_index (Subj.mk s.1) kind fun x0_0=>Cnd (x0_0<(0:Int)) (K (Ctxt.mk (ByteArray.mk (Array.mk [])) (ByteArray.mk (Array.mk [])) []) false) (((0:Int)≤x0_0∧x0_0<(↑s.1.length:Int))∧ ∀y1,s.1[x0_0.toNat]? =some y1→X_clone_Context y1 fun x3_0=>K x3_0 true)
def q46 (s:Subj) (kind:ByteArray) (K:Ctxt→Bool→Prop):Prop:=z3u q1u q33 s kind K
abbrev q6z:Type:=Subj→ByteArray→ByteArray→(Val→Bool→Prop)→Prop
def z0k (X_subject_index:q23) (X_clone_Value:q2d) (s:Subj) (kind:ByteArray) (name:ByteArray) (K:Val→Bool→Prop):Prop:=X_subject_index (Subj.mk s.1) kind fun x0_0=>Cnd (x0_0<(0:Int)) (K (Val.mk (0:Int) (0:Int) (ByteArray.mk (Array.mk [])) []) false) (((0:Int)≤x0_0∧x0_0<(↑s.1.length:Int))∧ ∀y1,s.1[x0_0.toNat]? =some y1→Cnd (name=ByteArray.mk (Array.mk [107,101,121])) (K (Val.mk (3:Int) (0:Int) y1.2 []) true) (y1.3.length≤(9223372036854775807:Nat)→Lp5 (fun x4_0 x4_1 x4_2 x4_3 (x4_4:List ByteArray) Y4_5=>Cnd (x4_0<(↑y1.3.length:Int)) (((0:Int)≤x4_0∧x4_0<(↑y1.3.length:Int))∧ ∀y5,y1.3[x4_0.toNat]? =some y5→Cnd (y5.1=name) (X_clone_Value (Val.mk y5.2.1 y5.2.2 y5.2.3 y5.2.4) fun x7_0=>K x7_0 true) (InI (x4_0+(1:Int))∧Y4_5 (x4_0+(1:Int)) x4_1 x4_2 x4_3 x4_4)) (K (Val.mk (0:Int) (0:Int) (ByteArray.mk (Array.mk [])) []) false)) (0:Int) (0:Int) (0:Int) (ByteArray.mk (Array.mk [])) []))
def q3c (s:Subj) (kind:ByteArray) (name:ByteArray) (K:Val→Bool→Prop):Prop:=z0k q1u q1n s kind name K
abbrev z01:Type:=Val→Val→(Bool→Prop)→Prop
def z5x (X_slices_Equal_string_string_:q0v) (a:Val) (b:Val) (K:Bool→Prop):Prop:=Cnd (a.1=b.1) (Cnd (a.2=b.2) (Cnd (a.3=b.3) (X_slices_Equal_string_string_ a.4 b.4 fun x0_0=>K x0_0) (K false)) (K false)) (K false)
def q4j (a:Val) (b:Val) (K:Bool→Prop):Prop:=z5x q0k a b K
abbrev q1c:Type:=ByteArray→ByteArray→(Bool→Prop)→Prop
def q0s (s:ByteArray) (prefix_:ByteArray) (K:Bool→Prop):Prop:=Cnd ((↑prefix_.size:Int)≤(↑s.size:Int)) (((0:Int)≤(0:Int)∧(0:Int)≤(↑prefix_.size:Int)∧(↑prefix_.size:Int)≤(↑s.size:Int))∧K (decide (s.extract (Int.toNat (0:Int)) (↑prefix_.size:Int).toNat=prefix_))) (K false)
abbrev q4k:Type:=ByteArray→ByteArray→(Bool→Prop)→Prop
def q68 (X_stringslite_HasPrefix:q1c) (s:ByteArray) (prefix_:ByteArray) (K:Bool→Prop):Prop:=X_stringslite_HasPrefix s prefix_ fun x0_0=>K x0_0
def q18 (s:ByteArray) (prefix_:ByteArray) (K:Bool→Prop):Prop:=q68 q0s s prefix_ K
abbrev q2p:Type:=ByteArray→ByteArray→(Bool→Prop)→Prop
def q1p (s:ByteArray) (suffix:ByteArray) (K:Bool→Prop):Prop:=Cnd ((↑suffix.size:Int)≤(↑s.size:Int)) (InI ((↑s.size:Int) - (↑suffix.size:Int))∧((0:Int)≤(↑s.size:Int) - (↑suffix.size:Int)∧(↑s.size:Int) - (↑suffix.size:Int)≤(↑s.size:Int)∧(↑s.size:Int)≤(↑s.size:Int))∧K (decide (s.extract ((↑s.size:Int) - (↑suffix.size:Int)).toNat (↑s.size:Int).toNat=suffix))) (K false)
abbrev q4l:Type:=ByteArray→ByteArray→(Bool→Prop)→Prop
def q69 (X_stringslite_HasSuffix:q2p) (s:ByteArray) (suffix:ByteArray) (K:Bool→Prop):Prop:=X_stringslite_HasSuffix s suffix fun x0_0=>K x0_0
def q19 (s:ByteArray) (suffix:ByteArray) (K:Bool→Prop):Prop:=q69 q1p s suffix K
abbrev q5c:Type:=ByteArray→ByteArray→(Bool→Prop)→Prop
def q3j (s:ByteArray) (substr:ByteArray) (K:Bool→Prop):Prop:=s.size<4294967281∧K (Go.Lib.contains s.data.toList substr.data.toList)
abbrev z02:Type:=Val→(Bool→Prop)→Prop
def q4m (v:Val) (K:Bool→Prop):Prop:=Jn1 (fun x0_0=>Cnd (x0_0=true) (Cnd (v.3=ByteArray.mk (Array.mk [])) (v.4.length≤(9223372036854775807:Nat)→K (decide ((↑v.4.length:Int)=(0:Int)))) (K false)) (Jn1 (fun x1_0=>Cnd (x1_0=true) (Cnd (v.2=(0:Int)) (v.4.length≤(9223372036854775807:Nat)→K (decide ((↑v.4.length:Int)=(0:Int)))) (K false)) (Cnd (v.2=(0:Int)) (K (decide (v.3=ByteArray.mk (Array.mk [])))) (K false))) fun Y1_0=>Cnd (v.1=(3:Int)) (Y1_0 (decide (v.1=(3:Int)))) (Y1_0 (decide (v.1=(4:Int)))))) fun Y0_0=>Cnd (v.1=(1:Int)) (Y0_0 (decide (v.1=(1:Int)))) (Y0_0 (decide (v.1=(2:Int))))
abbrev z2z:Type:=ByteArray→(Bool→Prop)→Prop
def z8b (X_utf8_ValidString:q12) (s:ByteArray) (K:Bool→Prop):Prop:=Cnd ((200:Int)<(↑s.size:Int)) (K false) (X_utf8_ValidString s fun x0_0=>Cnd (x0_0=true) (Lp1 (fun (x1_0:ByteArray×Nat) Y1_1=>Cnd (x1_0.snd<x1_0.fst.size) (Cnd ((↑(Go.Utf8.decode x1_0.fst x1_0.snd).fst:Int)<(32:Int)) (K false) (Cnd ((↑(Go.Utf8.decode x1_0.fst x1_0.snd).fst:Int)=(127:Int)) (K false) (Y1_1 (x1_0.fst,x1_0.snd+(Go.Utf8.decode x1_0.fst x1_0.snd).snd)))) (K true)) (s,(0:Nat))) (K false))
def q7r (s:ByteArray) (K:Bool→Prop):Prop:=z8b q1g s K
abbrev q8g:Type:=ByteArray→ByteArray→(List (ByteArray)→Prop)→Prop
def q5r (s:ByteArray) (sep:ByteArray) (K:List (ByteArray)→Prop):Prop:=sep.size=1∧s.size<4294967281∧K (q7g s sep)
abbrev q2q:Type:=ByteArray→ByteArray→(ByteArray→Bool→Prop)→Prop
def q4n (X_stringslite_HasPrefix:q1c) (s:ByteArray) (prefix_:ByteArray) (K:ByteArray→Bool→Prop):Prop:=X_stringslite_HasPrefix s prefix_ fun x0_0=>Cnd (x0_0=true) (((0:Int)≤(↑prefix_.size:Int)∧(↑prefix_.size:Int)≤(↑s.size:Int)∧(↑s.size:Int)≤(↑s.size:Int))∧K (s.extract (↑prefix_.size:Int).toNat (↑s.size:Int).toNat) true) (K s false)
def q13 (s:ByteArray) (prefix_:ByteArray) (K:ByteArray→Bool→Prop):Prop:=q4n q0s s prefix_ K
abbrev q4o:Type:=ByteArray→ByteArray→(ByteArray→Bool→Prop)→Prop
def q7a (X_stringslite_CutPrefix:q2q) (s:ByteArray) (prefix_:ByteArray) (K:ByteArray→Bool→Prop):Prop:=X_stringslite_CutPrefix s prefix_ fun x0_0 x0_1=>K x0_0 x0_1
def q2a (s:ByteArray) (prefix_:ByteArray) (K:ByteArray→Bool→Prop):Prop:=q7a q13 s prefix_ K
abbrev q90:Type:=ByteArray→(Int→Bool→Prop)→Prop
def q47 (s:ByteArray) (K:Int→Bool→Prop):Prop:=s.size≤281474976710656∧u2z s K
abbrev q5d:Type:=ByteArray→(Int→Int→Prop)→Prop
def q8h (X_strings_CutPrefix:q4o) (X_strconv_Atoi:q90) (s:ByteArray) (K:Int→Int→Prop):Prop:=X_strings_CutPrefix s (ByteArray.mk (Array.mk [45])) fun x0_0 x0_1=>Cnd (x0_0=ByteArray.mk (Array.mk [])) (K (0:Int) (1:Int)) (((0:Int)≤(0:Int)∧(0:Int)<(↑x0_0.size:Int))∧ ∀b1,x0_0[Int.toNat (0:Int)]? =some b1→Cnd ((↑b1.toNat:Int)=(48:Int)) (Cnd ((1:Int)<(↑x0_0.size:Int)) (K (0:Int) (1:Int)) (Cnd (x0_1=true) (K (0:Int) (1:Int)) (Lp1 (fun (x3_0:ByteArray×Nat) Y3_1=>Cnd (x3_0.snd<x3_0.fst.size) (Cnd ((↑(Go.Utf8.decode x3_0.fst x3_0.snd).fst:Int)<(48:Int)) (K (0:Int) (1:Int)) (Cnd ((57:Int)<(↑(Go.Utf8.decode x3_0.fst x3_0.snd).fst:Int)) (K (0:Int) (1:Int)) (Y3_1 (x3_0.fst,x3_0.snd+(Go.Utf8.decode x3_0.fst x3_0.snd).snd)))) (X_strconv_Atoi s fun x4_0 x4_1=>Cnd ((match (x4_0,x4_1,()).snd.fst with|true=>false|false=>true)=true) (K (0:Int) (3:Int)) (Cnd (x4_0<(-1099511627776:Int)) (K (0:Int) (3:Int)) (Cnd ((1099511627776:Int)<x4_0) (K (0:Int) (3:Int)) (K x4_0 (0:Int)))))) (x0_0,(0:Nat))))) (Lp1 (fun (x3_0:ByteArray×Nat) Y3_1=>Cnd (x3_0.snd<x3_0.fst.size) (Cnd ((↑(Go.Utf8.decode x3_0.fst x3_0.snd).fst:Int)<(48:Int)) (K (0:Int) (1:Int)) (Cnd ((57:Int)<(↑(Go.Utf8.decode x3_0.fst x3_0.snd).fst:Int)) (K (0:Int) (1:Int)) (Y3_1 (x3_0.fst,x3_0.snd+(Go.Utf8.decode x3_0.fst x3_0.snd).snd)))) (X_strconv_Atoi s fun x4_0 x4_1=>Cnd ((match (x4_0,x4_1,()).snd.fst with|true=>false|false=>true)=true) (K (0:Int) (3:Int)) (Cnd (x4_0<(-1099511627776:Int)) (K (0:Int) (3:Int)) (Cnd ((1099511627776:Int)<x4_0) (K (0:Int) (3:Int)) (K x4_0 (0:Int)))))) (x0_0,(0:Nat))))
def q2g (s:ByteArray) (K:Int→Int→Prop):Prop:=q8h q2a q47 s K
abbrev q4p:Type:=ByteArray→(A3→Bool→Prop)→Prop
def z5y (X_strings_Split:q8g) (X_text_ParseNumber:q5d) (s:ByteArray) (K:A3→Bool→Prop):Prop:=X_strings_Split s (ByteArray.mk (Array.mk [46])) fun x0_0=>x0_0.length≤(9223372036854775807:Nat)→Cnd ((↑x0_0.length:Int)=(3:Int)) (x0_0.length≤(9223372036854775807:Nat)→LpH (fun (x3_0:Int×Int×Int×Int×Int×Int×Int×Unit) Y3_1=>Cnd (x3_0.fst<(↑x0_0.length:Int)) (((0:Int)≤x3_0.fst∧x3_0.fst<(↑x0_0.length:Int))∧ ∀y4,x0_0[x3_0.fst.toNat]? =some y4→X_text_ParseNumber y4 fun x6_0 x6_1=>Cnd (x6_1=(0:Int)) (Cnd (x6_0<(0:Int)) (K ((0:Int),(0:Int),(0:Int)) false) (Cnd ((999999:Int)<x6_0) (K ((0:Int),(0:Int),(0:Int)) false) (((0:Int)≤x3_0.fst∧x3_0.fst<(↑(3:Nat):Int))∧((True∧(x3_0.fst=(↑(nat_lit 0):Int)→InI (x3_0.fst+(1:Int))∧Y3_1 (x3_0.fst+(1:Int),x6_0,x3_0.snd.snd.fst,x3_0.snd.snd.snd.fst,x3_0.snd.snd.snd.snd.fst,x3_0.snd.snd.snd.snd.snd.fst,x3_0.snd.snd.snd.snd.snd.snd.fst,())))∧(x3_0.fst=(↑(nat_lit 1):Int)→InI (x3_0.fst+(1:Int))∧Y3_1 (x3_0.fst+(1:Int),x3_0.snd.fst,x6_0,x3_0.snd.snd.snd.fst,x3_0.snd.snd.snd.snd.fst,x3_0.snd.snd.snd.snd.snd.fst,x3_0.snd.snd.snd.snd.snd.snd.fst,())))∧(x3_0.fst=(↑(nat_lit 2):Int)→InI (x3_0.fst+(1:Int))∧Y3_1 (x3_0.fst+(1:Int),x3_0.snd.fst,x3_0.snd.snd.fst,x6_0,x3_0.snd.snd.snd.snd.fst,x3_0.snd.snd.snd.snd.snd.fst,x3_0.snd.snd.snd.snd.snd.snd.fst,()))))) (K ((0:Int),(0:Int),(0:Int)) false)) (K (x3_0.snd.fst,x3_0.snd.snd.fst,x3_0.snd.snd.snd.fst) true)) ((0:Int),(0:Int),(0:Int),(0:Int),(0:Int),(0:Int),(0:Int),())) (K ((0:Int),(0:Int),(0:Int)) false)
def q2r (s:ByteArray) (K:A3→Bool→Prop):Prop:=z5y q5r q2g s K
abbrev z03:Type:=Val→(Int→Prop)→Prop
def z5z (X_value_shape:z02) (X_text_Valid:z2z) (X_value_parts:q4p) (v:Val) (K:Int→Prop):Prop:=Cnd (v.1<(1:Int)) (K (7:Int)) (Cnd ((5:Int)<v.1) (K (7:Int)) (X_value_shape v fun x0_0=>Cnd (x0_0=true) (Cnd (v.1=(1:Int)) (Cnd (v.2=(0:Int)) (K (0:Int)) (Cnd (v.2=(1:Int)) (K (0:Int)) (K (3:Int)))) (Cnd (v.1=(2:Int)) (Cnd (v.2<(-1099511627776:Int)) (K (3:Int)) (Cnd ((1099511627776:Int)<v.2) (K (3:Int)) (K (0:Int)))) (Cnd (v.1=(3:Int)) (X_text_Valid v.3 fun x1_0=>Cnd (x1_0=true) (K (0:Int)) (K (2:Int))) (Cnd (v.1=(4:Int)) (X_value_parts v.3 fun (_:Int×Int×Int) x1_1=>Cnd (x1_1=true) (K (0:Int)) (K (1:Int))) (Cnd (v.1=(5:Int)) (v.4.length≤(9223372036854775807:Nat)→Cnd ((20:Int)<(↑v.4.length:Int)) (K (5:Int)) (v.4.length≤(9223372036854775807:Nat)→Lp1 (fun x3_0 Y3_1=>Cnd (x3_0<(↑v.4.length:Int)) (((0:Int)≤x3_0∧x3_0<(↑v.4.length:Int))∧ ∀y4,v.4[x3_0.toNat]? =some y4→X_text_Valid y4 fun x6_0=>Cnd (x6_0=true) (InI (x3_0+(1:Int))∧Y3_1 (x3_0+(1:Int))) (K (2:Int))) (v.4.length≤(9223372036854775807:Nat)→Lp1 (fun x5_0 Y5_1=>Cnd (x5_0<(↑v.4.length:Int)) (Cnd ((0:Int)<x5_0) (InI (x5_0 - (1:Int))∧((0:Int)≤x5_0 - (1:Int)∧x5_0 - (1:Int)<(↑v.4.length:Int))∧ ∀y6,v.4[(x5_0 - (1:Int)).toNat]? =some y6→((0:Int)≤x5_0∧x5_0<(↑v.4.length:Int))∧ ∀y8,v.4[x5_0.toNat]? =some y8→Cnd (Lk.blt y6 y8) (InI (x5_0+(1:Int))∧Y5_1 (x5_0+(1:Int))) (K (9:Int))) (InI (x5_0+(1:Int))∧Y5_1 (x5_0+(1:Int)))) (K (0:Int))) (0:Int))) (0:Int))) (K (0:Int))))))) (K (15:Int))))
def q6c (v:Val) (K:Int→Prop):Prop:=z5z q4m q7r q2r v K
abbrev q8i:Type:=Val→Val→(Int→Int→Prop)→Prop
def z15 (X_value_Check:z03) (X_value_parts:q4p) (a:Val) (b:Val) (K:Int→Int→Prop):Prop:=X_value_Check a fun x0_0=>Cnd (x0_0=(0:Int)) (X_value_Check b fun x1_0=>Cnd (x1_0=(0:Int)) (Cnd (a.1=b.1) (Cnd (a.1=(1:Int)) (K (0:Int) (8:Int)) (Cnd (a.1=(5:Int)) (K (0:Int) (8:Int)) (Cnd (a.1=(2:Int)) (Cnd (a.2=a.2) (Cnd (b.2=b.2) (Cnd (a.2<b.2) (K (-1:Int) (0:Int)) (Cnd (b.2<a.2) (K (1:Int) (0:Int)) (K (0:Int) (0:Int)))) (K (1:Int) (0:Int))) (Cnd (b.2=b.2) (K (-1:Int) (0:Int)) (K (0:Int) (0:Int)))) (Cnd (a.1=(3:Int)) (Cnd (a.3=a.3) (Cnd (b.3=b.3) (Cnd (Lk.blt a.3 b.3) (K (-1:Int) (0:Int)) (Cnd (Lk.blt b.3 a.3) (K (1:Int) (0:Int)) (K (0:Int) (0:Int)))) (K (1:Int) (0:Int))) (Cnd (b.3=b.3) (K (-1:Int) (0:Int)) (K (0:Int) (0:Int)))) (X_value_parts a.3 fun (x2_0:Int×Int×Int) _=>X_value_parts b.3 fun (x3_0:Int×Int×Int) _=>([x2_0.fst,x2_0.snd.fst,x2_0.snd.snd].length≤(9223372036854775807:Nat)→Lp1 (fun x5_0 Y5_1=>Cnd (x5_0<(↑[x2_0.fst,x2_0.snd.fst,x2_0.snd.snd].length:Int)) (((0:Int)≤x5_0∧x5_0<(↑[x2_0.fst,x2_0.snd.fst,x2_0.snd.snd].length:Int))∧ ∀y6,[x2_0.fst,x2_0.snd.fst,x2_0.snd.snd][x5_0.toNat]? =some y6→[x3_0.fst,x3_0.snd.fst,x3_0.snd.snd].length≤(9223372036854775807:Nat)→Cnd ((↑[x3_0.fst,x3_0.snd.fst,x3_0.snd.snd].length:Int)≤x5_0) (K (1:Int) (0:Int)) (((0:Int)≤x5_0∧x5_0<(↑[x3_0.fst,x3_0.snd.fst,x3_0.snd.snd].length:Int))∧ ∀y9,[x3_0.fst,x3_0.snd.fst,x3_0.snd.snd][x5_0.toNat]? =some y9→Cnd (y6=y6) (Cnd (y9=y9) (Cnd (y6<y9) (Cnd ((-1:Int)=(0:Int)) (InI (x5_0+(1:Int))∧Y5_1 (x5_0+(1:Int))) (K (-1:Int) (0:Int))) (Cnd (y9<y6) (Cnd ((1:Int)=(0:Int)) (InI (x5_0+(1:Int))∧Y5_1 (x5_0+(1:Int))) (K (1:Int) (0:Int))) (Cnd ((0:Int)=(0:Int)) (InI (x5_0+(1:Int))∧Y5_1 (x5_0+(1:Int))) (K (0:Int) (0:Int))))) (Cnd ((1:Int)=(0:Int)) (InI (x5_0+(1:Int))∧Y5_1 (x5_0+(1:Int))) (K (1:Int) (0:Int)))) (Cnd (y9=y9) (Cnd ((-1:Int)=(0:Int)) (InI (x5_0+(1:Int))∧Y5_1 (x5_0+(1:Int))) (K (-1:Int) (0:Int))) (Cnd ((0:Int)=(0:Int)) (InI (x5_0+(1:Int))∧Y5_1 (x5_0+(1:Int))) (K (0:Int) (0:Int)))))) ([x2_0.fst,x2_0.snd.fst,x2_0.snd.snd].length≤(9223372036854775807:Nat)→[x3_0.fst,x3_0.snd.fst,x3_0.snd.snd].length≤(9223372036854775807:Nat)→Cnd ((↑[x2_0.fst,x2_0.snd.fst,x2_0.snd.snd].length:Int)<(↑[x3_0.fst,x3_0.snd.fst,x3_0.snd.snd].length:Int)) (K (-1:Int) (0:Int)) (K (0:Int) (0:Int)))) (0:Int))∧([x2_0.fst,x2_0.snd.fst,x2_0.snd.snd].length≤(9223372036854775807:Nat)→Lp1 (fun x5_0 Y5_1=>Cnd (x5_0<(↑[x2_0.fst,x2_0.snd.fst,x2_0.snd.snd].length:Int)) (((0:Int)≤x5_0∧x5_0<(↑[x2_0.fst,x2_0.snd.fst,x2_0.snd.snd].length:Int))∧ ∀y6,[x2_0.fst,x2_0.snd.fst,x2_0.snd.snd][x5_0.toNat]? =some y6→[x3_0.fst,x3_0.snd.fst,x3_0.snd.snd].length≤(9223372036854775807:Nat)→Cnd ((↑[x3_0.fst,x3_0.snd.fst,x3_0.snd.snd].length:Int)≤x5_0) (K (1:Int) (0:Int)) (((0:Int)≤x5_0∧x5_0<(↑[x3_0.fst,x3_0.snd.fst,x3_0.snd.snd].length:Int))∧ ∀y9,[x3_0.fst,x3_0.snd.fst,x3_0.snd.snd][x5_0.toNat]? =some y9→Cnd (y6=y6) (Cnd (y9=y9) (Cnd (y6<y9) (Cnd ((-1:Int)=(0:Int)) (InI (x5_0+(1:Int))∧Y5_1 (x5_0+(1:Int))) (K (-1:Int) (0:Int))) (Cnd (y9<y6) (Cnd ((1:Int)=(0:Int)) (InI (x5_0+(1:Int))∧Y5_1 (x5_0+(1:Int))) (K (1:Int) (0:Int))) (Cnd ((0:Int)=(0:Int)) (InI (x5_0+(1:Int))∧Y5_1 (x5_0+(1:Int))) (K (0:Int) (0:Int))))) (Cnd ((1:Int)=(0:Int)) (InI (x5_0+(1:Int))∧Y5_1 (x5_0+(1:Int))) (K (1:Int) (0:Int)))) (Cnd (y9=y9) (Cnd ((-1:Int)=(0:Int)) (InI (x5_0+(1:Int))∧Y5_1 (x5_0+(1:Int))) (K (-1:Int) (0:Int))) (Cnd ((0:Int)=(0:Int)) (InI (x5_0+(1:Int))∧Y5_1 (x5_0+(1:Int))) (K (0:Int) (0:Int)))))) ([x2_0.fst,x2_0.snd.fst,x2_0.snd.snd].length≤(9223372036854775807:Nat)→[x3_0.fst,x3_0.snd.fst,x3_0.snd.snd].length≤(9223372036854775807:Nat)→Cnd ((↑[x2_0.fst,x2_0.snd.fst,x2_0.snd.snd].length:Int)<(↑[x3_0.fst,x3_0.snd.fst,x3_0.snd.snd].length:Int)) (K (-1:Int) (0:Int)) (K (0:Int) (0:Int)))) (0:Int))))))) (K (0:Int) (8:Int))) (K (0:Int) x1_0)) (K (0:Int) x0_0)
def q24 (a:Val) (b:Val) (K:Int→Int→Prop):Prop:=z15 q6c q2r a b K
abbrev z04:Type:=Subj→Ex→(Bool→Prop)→Prop
def z50 (X_subject_Lookup:q6z) (X_clause_test:q4i) (X_value_Equal:z01) (X_strings_HasPrefix:q4k) (X_strings_HasSuffix:q4l) (X_strings_Contains:q5c) (X_value_Compare:q8i) (s:Subj) (e:Ex) (K:Bool→Prop):Prop:=X_subject_Lookup (Subj.mk s.1) e.2 e.3 fun x0_0 x0_1=>Cnd (x0_1=true) (X_clause_test e.1 fun x1_0=>Cnd (x1_0=true) (Cnd (e.1=(6:Int)) (K true) (Cnd (e.1=(8:Int)) (e.4.length≤(9223372036854775807:Nat)→Lp1 (fun x3_0 Y3_1=>Cnd (x3_0<(↑e.4.length:Int)) (((0:Int)≤x3_0∧x3_0<(↑e.4.length:Int))∧ ∀y4,e.4[x3_0.toNat]? =some y4→X_value_Equal x0_0 y4 fun x6_0=>Cnd (x6_0=true) (K (decide ((0:Int)≤x3_0))) (InI (x3_0+(1:Int))∧Y3_1 (x3_0+(1:Int)))) (K (decide ((0:Int)≤(-1:Int))))) (0:Int)) (e.4.length≤(9223372036854775807:Nat)→Cnd ((↑e.4.length:Int)=(0:Int)) (K false) (((0:Int)≤(0:Int)∧(0:Int)<(↑e.4.length:Int))∧ ∀y3,e.4[Int.toNat (0:Int)]? =some y3→Cnd (x0_0.1=(3:Int)) (Cnd (e.1=(7:Int)) (X_value_Equal x0_0 y3 fun x5_0=>K x5_0) (Cnd (e.1=(9:Int)) (Cnd (y3.1=(3:Int)) (X_strings_HasPrefix x0_0.3 y3.3 fun x5_0=>K x5_0) (K false)) (Cnd (e.1=(10:Int)) (Cnd (y3.1=(3:Int)) (X_strings_HasSuffix x0_0.3 y3.3 fun x5_0=>K x5_0) (K false)) (Cnd (e.1=(11:Int)) (Cnd (y3.1=(3:Int)) (X_strings_Contains x0_0.3 y3.3 fun x5_0=>Cnd (x5_0=true) (K true) (Cnd (y3.1=(3:Int)) (Cnd (x0_0.1=(5:Int)) (x0_0.4.length≤(9223372036854775807:Nat)→Lp1 (fun x7_0 Y7_1=>Cnd (x7_0<(↑x0_0.4.length:Int)) (((0:Int)≤x7_0∧x7_0<(↑x0_0.4.length:Int))∧ ∀y8,x0_0.4[x7_0.toNat]? =some y8→Cnd (y3.3=y8) (K (decide ((0:Int)≤x7_0))) (InI (x7_0+(1:Int))∧Y7_1 (x7_0+(1:Int)))) (K (decide ((0:Int)≤(-1:Int))))) (0:Int)) (K false)) (K false))) (Cnd (y3.1=(3:Int)) (Cnd (x0_0.1=(5:Int)) (x0_0.4.length≤(9223372036854775807:Nat)→Lp1 (fun x6_0 Y6_1=>Cnd (x6_0<(↑x0_0.4.length:Int)) (((0:Int)≤x6_0∧x6_0<(↑x0_0.4.length:Int))∧ ∀y7,x0_0.4[x6_0.toNat]? =some y7→Cnd (y3.3=y7) (K (decide ((0:Int)≤x6_0))) (InI (x6_0+(1:Int))∧Y6_1 (x6_0+(1:Int)))) (K (decide ((0:Int)≤(-1:Int))))) (0:Int)) (K false)) (K false))) (X_value_Compare x0_0 y3 fun x5_0 x5_1=>Cnd (x5_1=(0:Int)) (Cnd (e.1=(12:Int)) (K (decide (x5_0<(0:Int)))) (Cnd (e.1=(13:Int)) (K (decide (x5_0≤(0:Int)))) (Cnd (e.1=(14:Int)) (K (decide ((0:Int)<x5_0))) (K (decide ((0:Int)≤x5_0)))))) (K false)))))) (Cnd (e.1=(7:Int)) (X_value_Equal x0_0 y3 fun x5_0=>K x5_0) (Cnd (e.1=(9:Int)) (K false) (Cnd (e.1=(10:Int)) (K false) (Cnd (e.1=(11:Int)) (Cnd (y3.1=(3:Int)) (Cnd (x0_0.1=(5:Int)) (x0_0.4.length≤(9223372036854775807:Nat)→Lp1 (fun x6_0 Y6_1=>Cnd (x6_0<(↑x0_0.4.length:Int)) (((0:Int)≤x6_0∧x6_0<(↑x0_0.4.length:Int))∧ ∀y7,x0_0.4[x6_0.toNat]? =some y7→Cnd (y3.3=y7) (K (decide ((0:Int)≤x6_0))) (InI (x6_0+(1:Int))∧Y6_1 (x6_0+(1:Int)))) (K (decide ((0:Int)≤(-1:Int))))) (0:Int)) (K false)) (K false)) (X_value_Compare x0_0 y3 fun x5_0 x5_1=>Cnd (x5_1=(0:Int)) (Cnd (e.1=(12:Int)) (K (decide (x5_0<(0:Int)))) (Cnd (e.1=(13:Int)) (K (decide (x5_0≤(0:Int)))) (Cnd (e.1=(14:Int)) (K (decide ((0:Int)<x5_0))) (K (decide ((0:Int)≤x5_0)))))) (K false)))))))))) (K false)) (K false)
def q6d (s:Subj) (e:Ex) (K:Bool→Prop):Prop:=z50 q3c q2c q4j q18 q19 q3j q24 s e K
abbrev q4q:Type:=Subj→List (ByteArray)→Ex→(Bool→Prop)→Prop
def z52 (X_clause_Test:z04) (X:q4q) (s:Subj) (in_:List (ByteArray)) (e:Ex) (K:Bool→Prop):Prop:=Cnd (e.1=(1:Int)) (K true) (Cnd (e.1=(2:Int)) (e.5.length≤(9223372036854775807:Nat)→Lp1 (fun x1_0 Y1_1=>Cnd (x1_0<(↑e.5.length:Int)) (((0:Int)≤x1_0∧x1_0<(↑e.5.length:Int))∧ ∀y2,e.5[x1_0.toNat]? =some y2→X (Subj.mk s.1) in_ (Ex.mk y2.1 y2.2 y2.3 y2.4 y2.5) fun x4_0=>Cnd (x4_0=true) (InI (x1_0+(1:Int))∧Y1_1 (x1_0+(1:Int))) (K (match decide ((0:Int)≤x1_0) with|true=>false|false=>true))) (K true)) (0:Int)) (Cnd (e.1=(3:Int)) (e.5.length≤(9223372036854775807:Nat)→Lp1 (fun x1_0 Y1_1=>Cnd (x1_0<(↑e.5.length:Int)) (((0:Int)≤x1_0∧x1_0<(↑e.5.length:Int))∧ ∀y2,e.5[x1_0.toNat]? =some y2→X (Subj.mk s.1) in_ (Ex.mk y2.1 y2.2 y2.3 y2.4 y2.5) fun x4_0=>Cnd (x4_0=true) (K (decide ((0:Int)≤x1_0))) (InI (x1_0+(1:Int))∧Y1_1 (x1_0+(1:Int)))) (K (decide ((0:Int)≤(-1:Int))))) (0:Int)) (Cnd (e.1=(4:Int)) (e.5.length≤(9223372036854775807:Nat)→Cnd ((0:Int)<(↑e.5.length:Int)) (((0:Int)≤(0:Int)∧(0:Int)<(↑e.5.length:Int))∧ ∀y1,e.5[Int.toNat (0:Int)]? =some y1→X (Subj.mk s.1) in_ (Ex.mk y1.1 y1.2 y1.3 y1.4 y1.5) fun x3_0=>K (match decide ((x3_0,()).fst=true) with|true=>false|false=>true)) (K false)) (Cnd (e.1=(5:Int)) (in_.length≤(9223372036854775807:Nat)→Lp1 (fun x1_0 Y1_1=>Cnd (x1_0<(↑in_.length:Int)) (((0:Int)≤x1_0∧x1_0<(↑in_.length:Int))∧ ∀y2,in_[x1_0.toNat]? =some y2→Cnd (e.3=y2) (K (decide ((0:Int)≤x1_0))) (InI (x1_0+(1:Int))∧Y1_1 (x1_0+(1:Int)))) (K (decide ((0:Int)≤(-1:Int))))) (0:Int)) (X_clause_Test (Subj.mk s.1) (Ex.mk e.1 e.2 e.3 e.4 e.5) fun x0_0=>K x0_0)))))
def q6e (s:Subj) (in_:List (ByteArray)) (e:Ex) (K:Bool→Prop):Prop:= ∀X:q4q,(∀s in_ e K,z52 q6d X s in_ e K→X s in_ e K)→X s in_ e K
abbrev q5e:Type:=Seg→Subj→List (ByteArray)→(Bool→Prop)→Prop
def q8j (X_subject_Find:q9z) (X_clause_Eval:q4q) (g:Seg) (s:Subj) (in_:List (ByteArray)) (K:Bool→Prop):Prop:=X_subject_Find (Subj.mk s.1) g.2 fun x0_0 x0_1=>Cnd (x0_1=true) (g.4.length≤(9223372036854775807:Nat)→Lp1 (fun x2_0 Y2_1=>Cnd (x2_0<(↑g.4.length:Int)) (((0:Int)≤x2_0∧x2_0<(↑g.4.length:Int))∧ ∀y3,g.4[x2_0.toNat]? =some y3→Cnd (x0_0.2=y3) (Cnd ((0:Int)≤x2_0) (K false) (g.3.length≤(9223372036854775807:Nat)→Lp1 (fun x6_0 Y6_1=>Cnd (x6_0<(↑g.3.length:Int)) (((0:Int)≤x6_0∧x6_0<(↑g.3.length:Int))∧ ∀y7,g.3[x6_0.toNat]? =some y7→Cnd (x0_0.2=y7) (Cnd ((0:Int)≤x6_0) (K true) (Cnd (g.5.1=(0:Int)) (K false) (X_clause_Eval (Subj.mk s.1) in_ (Ex.mk g.5.1 g.5.2 g.5.3 g.5.4 g.5.5) fun x9_0=>K x9_0))) (InI (x6_0+(1:Int))∧Y6_1 (x6_0+(1:Int)))) (Cnd ((0:Int)≤(-1:Int)) (K true) (Cnd (g.5.1=(0:Int)) (K false) (X_clause_Eval (Subj.mk s.1) in_ (Ex.mk g.5.1 g.5.2 g.5.3 g.5.4 g.5.5) fun x7_0=>K x7_0)))) (0:Int))) (InI (x2_0+(1:Int))∧Y2_1 (x2_0+(1:Int)))) (Cnd ((0:Int)≤(-1:Int)) (K false) (g.3.length≤(9223372036854775807:Nat)→Lp1 (fun x4_0 Y4_1=>Cnd (x4_0<(↑g.3.length:Int)) (((0:Int)≤x4_0∧x4_0<(↑g.3.length:Int))∧ ∀y5,g.3[x4_0.toNat]? =some y5→Cnd (x0_0.2=y5) (Cnd ((0:Int)≤x4_0) (K true) (Cnd (g.5.1=(0:Int)) (K false) (X_clause_Eval (Subj.mk s.1) in_ (Ex.mk g.5.1 g.5.2 g.5.3 g.5.4 g.5.5) fun x7_0=>K x7_0))) (InI (x4_0+(1:Int))∧Y4_1 (x4_0+(1:Int)))) (Cnd ((0:Int)≤(-1:Int)) (K true) (Cnd (g.5.1=(0:Int)) (K false) (X_clause_Eval (Subj.mk s.1) in_ (Ex.mk g.5.1 g.5.2 g.5.3 g.5.4 g.5.5) fun x5_0=>K x5_0)))) (0:Int)))) (0:Int)) (K false)
def q2h (g:Seg) (s:Subj) (in_:List (ByteArray)) (K:Bool→Prop):Prop:=q8j q46 q6e g s in_ K
abbrev q1e:Type:=List (Seg)→Subj→(List (ByteArray)→Prop)→Prop
def q9d (X_segment_Order:q8e) (X_segment_contains:q5e) (X_slices_Sort_string_string_:q0w) (l:List (Seg)) (s:Subj) (K:List (ByteArray)→Prop):Prop:=X_segment_Order l fun x0_0 x0_1=>Cnd (x0_1=(0:Int)) (l.length≤(9223372036854775807:Nat)→Lp2 (fun x2_0 Y2_1 Y2_2=>Cnd (x2_0<(↑l.length:Int)) (((0:Int)≤x2_0∧x2_0<(↑l.length:Int))∧ ∀y3,l[x2_0.toNat]? =some y3→InI (x2_0+(1:Int))∧Y2_2 (x2_0+(1:Int)) (put Y2_1 y3.1 (Seg.mk y3.1 y3.2 y3.3 y3.4 (Ex.mk y3.5.1 y3.5.2 y3.5.3 y3.5.4 y3.5.5)))) (x0_0.length≤(9223372036854775807:Nat)→Lp2 (fun x4_0 x4_1 Y4_2=>Cnd (x4_1<(↑x0_0.length:Int)) (((0:Int)≤x4_1∧x4_1<(↑x0_0.length:Int))∧ ∀y5,x0_0[x4_1.toNat]? =some y5→X_segment_contains (Seg.mk ((Y2_1 y5).getD (Seg.mk (ByteArray.mk (Array.mk [])) (ByteArray.mk (Array.mk [])) [] [] (Ex.mk (0:Int) (ByteArray.mk (Array.mk [])) (ByteArray.mk (Array.mk [])) [] []))).1 ((Y2_1 y5).getD (Seg.mk (ByteArray.mk (Array.mk [])) (ByteArray.mk (Array.mk [])) [] [] (Ex.mk (0:Int) (ByteArray.mk (Array.mk [])) (ByteArray.mk (Array.mk [])) [] []))).2 ((Y2_1 y5).getD (Seg.mk (ByteArray.mk (Array.mk [])) (ByteArray.mk (Array.mk [])) [] [] (Ex.mk (0:Int) (ByteArray.mk (Array.mk [])) (ByteArray.mk (Array.mk [])) [] []))).3 ((Y2_1 y5).getD (Seg.mk (ByteArray.mk (Array.mk [])) (ByteArray.mk (Array.mk [])) [] [] (Ex.mk (0:Int) (ByteArray.mk (Array.mk [])) (ByteArray.mk (Array.mk [])) [] []))).4 (Ex.mk ((Y2_1 y5).getD (Seg.mk (ByteArray.mk (Array.mk [])) (ByteArray.mk (Array.mk [])) [] [] (Ex.mk (0:Int) (ByteArray.mk (Array.mk [])) (ByteArray.mk (Array.mk [])) [] []))).5.1 ((Y2_1 y5).getD (Seg.mk (ByteArray.mk (Array.mk [])) (ByteArray.mk (Array.mk [])) [] [] (Ex.mk (0:Int) (ByteArray.mk (Array.mk [])) (ByteArray.mk (Array.mk [])) [] []))).5.2 ((Y2_1 y5).getD (Seg.mk (ByteArray.mk (Array.mk [])) (ByteArray.mk (Array.mk [])) [] [] (Ex.mk (0:Int) (ByteArray.mk (Array.mk [])) (ByteArray.mk (Array.mk [])) [] []))).5.3 ((Y2_1 y5).getD (Seg.mk (ByteArray.mk (Array.mk [])) (ByteArray.mk (Array.mk [])) [] [] (Ex.mk (0:Int) (ByteArray.mk (Array.mk [])) (ByteArray.mk (Array.mk [])) [] []))).5.4 ((Y2_1 y5).getD (Seg.mk (ByteArray.mk (Array.mk [])) (ByteArray.mk (Array.mk [])) [] [] (Ex.mk (0:Int) (ByteArray.mk (Array.mk [])) (ByteArray.mk (Array.mk [])) [] []))).5.5)) (Subj.mk s.1) x4_0 fun x7_0=>Cnd (x7_0=true) (Sml (x4_0++[y5]).length∧InI (x4_1+(1:Int))∧Y4_2 (x4_0++[y5]) (x4_1+(1:Int))) (InI (x4_1+(1:Int))∧Y4_2 x4_0 (x4_1+(1:Int)))) (X_slices_Sort_string_string_ x4_0 fun x5_0=>K x5_0)) [] (0:Int))) (0:Int) fun _=>none) (K [])
def q01 (l:List (Seg)) (s:Subj) (K:List (ByteArray)→Prop):Prop:=q9d q32 q2h q0p l s K
abbrev q5f:Type:=List (Seg)→Subj→ByteArray→(Bool→Prop)→Prop
def q8k (X_segment_Members:q1e) (l:List (Seg)) (s:Subj) (key:ByteArray) (K:Bool→Prop):Prop:=X_segment_Members l (Subj.mk s.1) fun x0_0=>x0_0.length≤(9223372036854775807:Nat)→Lp1 (fun x2_0 Y2_1=>Cnd (x2_0<(↑x0_0.length:Int)) (((0:Int)≤x2_0∧x2_0<(↑x0_0.length:Int))∧ ∀y3,x0_0[x2_0.toNat]? =some y3→Cnd (key=y3) (K (decide ((0:Int)≤x2_0))) (InI (x2_0+(1:Int))∧Y2_1 (x2_0+(1:Int)))) (K (decide ((0:Int)≤(-1:Int))))) (0:Int)
def q2i (l:List (Seg)) (s:Subj) (key:ByteArray) (K:Bool→Prop):Prop:=q8k q01 l s key K
abbrev z05:Type:=(Bool→Prop)→Prop
def z54 (X_segment_Contains:q5f) (X_segment_Members:q1e) (K:Bool→Prop):Prop:=X_segment_Contains [Seg.mk (ByteArray.mk (Array.mk [98,101,116,97])) (ByteArray.mk (Array.mk [117,115,101,114])) [ByteArray.mk (Array.mk [97]),ByteArray.mk (Array.mk [98])] [ByteArray.mk (Array.mk [98])] (Ex.mk (0:Int) (ByteArray.mk (Array.mk [])) (ByteArray.mk (Array.mk [])) [] [])] (Subj.mk [Ctxt.mk (ByteArray.mk (Array.mk [117,115,101,114])) (ByteArray.mk (Array.mk [97])) []]) (ByteArray.mk (Array.mk [98,101,116,97])) fun x0_0=>Cnd (x0_0=true) (X_segment_Contains [Seg.mk (ByteArray.mk (Array.mk [98,101,116,97])) (ByteArray.mk (Array.mk [117,115,101,114])) [ByteArray.mk (Array.mk [97]),ByteArray.mk (Array.mk [98])] [ByteArray.mk (Array.mk [98])] (Ex.mk (0:Int) (ByteArray.mk (Array.mk [])) (ByteArray.mk (Array.mk [])) [] [])] (Subj.mk [Ctxt.mk (ByteArray.mk (Array.mk [117,115,101,114])) (ByteArray.mk (Array.mk [98])) []]) (ByteArray.mk (Array.mk [98,101,116,97])) fun x1_0=>Cnd (x1_0=true) (K false) (X_segment_Members [Seg.mk (ByteArray.mk (Array.mk [98,101,116,97])) (ByteArray.mk (Array.mk [117,115,101,114])) [ByteArray.mk (Array.mk [97]),ByteArray.mk (Array.mk [98])] [ByteArray.mk (Array.mk [98])] (Ex.mk (0:Int) (ByteArray.mk (Array.mk [])) (ByteArray.mk (Array.mk [])) [] [])] (Subj.mk [Ctxt.mk (ByteArray.mk (Array.mk [117,115,101,114])) (ByteArray.mk (Array.mk [97])) []]) fun x2_0=>x2_0.length≤(9223372036854775807:Nat)→K (decide ((↑x2_0.length:Int)=(1:Int))))) (K false)
def q6f (K:Bool→Prop):Prop:=z54 q2i q01 K
abbrev v1x:Type:=List (Int)→Int→(List (Int)→Int→Prop)→Prop
def j23 (list_:List (Int)) (most:Int) (K:List (Int)→Int→Prop):Prop:=Jn1 (fun x0_0=>K x0_0 (0:Int)) fun Y0_0=>list_.length≤(9223372036854775807:Nat)→Cnd (most<(↑list_.length:Int)) (((0:Int)≤(0:Int)∧(0:Int)≤most∧most≤(↑list_.length:Int))∧Y0_0 (List.drop (Int.toNat (0:Int)) (List.take most.toNat list_))) (Y0_0 list_)
abbrev z55:Type:=List (Int)→Int→ByteArray→(Ctxt→Int→Prop)→Prop
def j24 (X_d_Key:j2p) (X_d_Declared:q1x) (X_d_Next:q0r) (X_d_Value:q6m) (list:List (Int)) (at_:Int) (kind:ByteArray) (K:Ctxt→Int→Prop):Prop:=X_d_Key list at_ fun x0_0 x0_1=>X_d_Declared fun x1_0=>Lp3 (fun x2_0 x2_1 x2_2 Y2_3=>x1_0.length≤(9223372036854775807:Nat)→Cnd (x2_0<(↑x1_0.length:Int)) (((0:Int)≤x2_0∧x2_0<(↑x1_0.length:Int))∧ ∀y4,x1_0[x2_0.toNat]? =some y4→Cnd (y4.1=kind) (X_d_Next list x2_2 (4:Int) fun x6_0 x6_1=>Cnd ((0:Int)<x6_0) (((0:Int)≤x2_0∧x2_0<(↑x1_0.length:Int))∧ ∀y7,x1_0[x2_0.toNat]? =some y7→((0:Int)≤x2_0∧x2_0<(↑x1_0.length:Int))∧ ∀y9,x1_0[x2_0.toNat]? =some y9→X_d_Value list x6_1 y9.3 fun x11_0 x11_1=>Sml (x2_1++[Attr.mk y7.2 x11_0]).length∧InI (x2_0+(1:Int))∧Y2_3 (x2_0+(1:Int)) (x2_1++[Attr.mk y7.2 x11_0]) x11_1) (InI (x2_0+(1:Int))∧Y2_3 (x2_0+(1:Int)) x2_1 x6_1)) (InI (x2_0+(1:Int))∧Y2_3 (x2_0+(1:Int)) x2_1 x2_2)) (K (Ctxt.mk kind x0_0 x2_1) x2_2)) (0:Int) [] x0_1
def q7b (list:List (Int)) (at_:Int) (kind:ByteArray) (K:Ctxt→Int→Prop):Prop:=j24 z5i q09 q0o q3f list at_ kind K
abbrev z56:Type:=List (Int)→Int→(Subj→Int→Prop)→Prop
def j25 (X_d_Next:q0r) (X_d_context:z55) (list:List (Int)) (at_:Int) (K:Subj→Int→Prop):Prop:=X_d_Next list at_ (6:Int) fun x0_0 x0_1=>Jn2 (fun x1_0 x1_1=>Cnd (x0_0=(1:Int)) (K (Subj.mk x1_1) x1_0) (Cnd (x0_0=(5:Int)) (K (Subj.mk x1_1) x1_0) (X_d_context list x1_0 (ByteArray.mk (Array.mk [117,115,101,114])) fun x2_0 x2_1=>Sml (x1_1++[x2_0]).length∧K (Subj.mk (x1_1++[x2_0])) x2_1))) fun Y1_0=>Cnd (x0_0=(1:Int)) (X_d_context list x0_1 (ByteArray.mk (Array.mk [100,101,118,105,99,101])) fun x2_0 x2_1=>Sml ([]++[x2_0]).length∧Y1_0 x2_1 ([]++[x2_0])) (Cnd (x0_0=(2:Int)) (X_d_context list x0_1 (ByteArray.mk (Array.mk [100,101,118,105,99,101])) fun x2_0 x2_1=>Sml ([]++[x2_0]).length∧Y1_0 x2_1 ([]++[x2_0])) (Cnd (x0_0=(4:Int)) (X_d_context list x0_1 (ByteArray.mk (Array.mk [100,101,118,105,99,101])) fun x2_0 x2_1=>Sml ([]++[x2_0]).length∧Y1_0 x2_1 ([]++[x2_0])) (Y1_0 x0_1 [])))
def q9e (list:List (Int)) (at_:Int) (K:Subj→Int→Prop):Prop:=j25 q0o q7b list at_ K
abbrev y9g:Type:=Subj→ByteArray→(Ctxt→Bool→Prop)→Prop
def w4c (s:Subj) (kind:ByteArray) (K:Ctxt→Bool→Prop):Prop:=Lp4 (fun x0_0 x0_1 x0_2 (x0_3:List Attr) Y0_4=>s.1.length≤(9223372036854775807:Nat)→Cnd (x0_0<(↑s.1.length:Int)) (((0:Int)≤x0_0∧x0_0<(↑s.1.length:Int))∧ ∀y2,s.1[x0_0.toNat]? =some y2→Cnd (y2.1=kind) (((0:Int)≤x0_0∧x0_0<(↑s.1.length:Int))∧ ∀y4,s.1[x0_0.toNat]? =some y4→K y4 true) (InI (x0_0+(1:Int))∧Y0_4 (x0_0+(1:Int)) x0_1 x0_2 x0_3)) (K (Ctxt.mk (ByteArray.mk (Array.mk [])) (ByteArray.mk (Array.mk [])) []) false)) (0:Int) (ByteArray.mk (Array.mk [])) (ByteArray.mk (Array.mk [])) []
abbrev v92:Type:=Subj→ByteArray→ByteArray→(Val→Bool→Prop)→Prop
def w4d (X_r5_Find:y9g) (s:Subj) (kind:ByteArray) (name:ByteArray) (K:Val→Bool→Prop):Prop:=X_r5_Find (Subj.mk s.1) kind fun x0_0 x0_1=>Cnd (x0_1=true) (Cnd (name=ByteArray.mk (Array.mk [107,101,121])) (K (Val.mk (3:Int) (0:Int) x0_0.2 []) true) (Lp5 (fun x1_0 x1_1 x1_2 x1_3 (x1_4:List ByteArray) Y1_5=>x0_0.3.length≤(9223372036854775807:Nat)→Cnd (x1_0<(↑x0_0.3.length:Int)) (((0:Int)≤x1_0∧x1_0<(↑x0_0.3.length:Int))∧ ∀y3,x0_0.3[x1_0.toNat]? =some y3→Cnd (y3.1=name) (((0:Int)≤x1_0∧x1_0<(↑x0_0.3.length:Int))∧ ∀y5,x0_0.3[x1_0.toNat]? =some y5→K (Val.mk y5.2.1 y5.2.2 y5.2.3 y5.2.4) true) (InI (x1_0+(1:Int))∧Y1_5 (x1_0+(1:Int)) x1_1 x1_2 x1_3 x1_4)) (K (Val.mk (0:Int) (0:Int) (ByteArray.mk (Array.mk [])) []) false)) (0:Int) (0:Int) (0:Int) (ByteArray.mk (Array.mk [])) [])) (K (Val.mk (0:Int) (0:Int) (ByteArray.mk (Array.mk [])) []) false)
def j26 (s:Subj) (kind:ByteArray) (name:ByteArray) (K:Val→Bool→Prop):Prop:=w4d w4c s kind name K
abbrev j9c:Type:=ByteArray→ByteArray→Int→(Bool→Prop)→Prop
def z22 (s:ByteArray) (t:ByteArray) (i:Int) (K:Bool→Prop):Prop:=Cnd ((0:Int)≤i) (InI (i+(↑t.size:Int))∧Cnd (i+(↑t.size:Int)≤(↑s.size:Int)) (InI (i+(↑t.size:Int))∧((0:Int)≤i∧i≤i+(↑t.size:Int)∧i+(↑t.size:Int)≤(↑s.size:Int))∧K (decide (s.extract i.toNat (i+(↑t.size:Int)).toNat=t))) (K false)) (K false)
abbrev w7p:Type:=Val→Val→(Bool→Prop)→Prop
def j1j (X_r1_Has:q6x) (X_r11_within:j9c) (v:Val) (w:Val) (K:Bool→Prop):Prop:=Cnd (w.1=(3:Int)) (Cnd (v.1=(5:Int)) (X_r1_Has v.4 w.3 fun x0_0=>K x0_0) (Lp1 (fun x0_0 Y0_1=>Cnd (v.1=(3:Int)) (InI (x0_0+(↑w.3.size:Int))∧Cnd (x0_0+(↑w.3.size:Int)≤(↑v.3.size:Int)) (X_r11_within v.3 w.3 x0_0 fun x1_0=>Cnd (x1_0=true) (K true) (InI (x0_0+(1:Int))∧Y0_1 (x0_0+(1:Int)))) (K false)) (K false)) (0:Int))) (K false)
def z3v (v:Val) (w:Val) (K:Bool→Prop):Prop:=j1j q4h z22 v w K
abbrev y9h:Type:=Bool→Bool→(Int→Prop)→Prop
def z8c (less:Bool) (greater:Bool) (K:Int→Prop):Prop:=Cnd (less=true) (K (-1:Int)) (Cnd (greater=true) (K (1:Int)) (K (0:Int)))
abbrev v5o:Type:=Val→Val→(Int→Int→Prop)→Prop
def j9d (X_r3_Check:q7j) (X_r3_sign:y9h) (X_r3_parts:z4l) (a:Val) (b:Val) (K:Int→Int→Prop):Prop:=X_r3_Check a fun x0_0=>Cnd (x0_0=(0:Int)) (X_r3_Check b fun x1_0=>Cnd (x1_0=(0:Int)) (Cnd (a.1=b.1) (Cnd (a.1=(1:Int)) (K (0:Int) (8:Int)) (Cnd (a.1=(5:Int)) (K (0:Int) (8:Int)) (Cnd (a.1=(2:Int)) (X_r3_sign (decide (a.2<b.2)) (decide (b.2<a.2)) fun x2_0=>K x2_0 (0:Int)) (Cnd (a.1=(3:Int)) (X_r3_sign (decide (Lk.blt a.3 b.3)) (decide (Lk.blt b.3 a.3)) fun x2_0=>K x2_0 (0:Int)) (X_r3_parts a.3 fun (x2_0:Int×Int×Int) _=>X_r3_parts b.3 fun (x3_0:Int×Int×Int) _=>Lp1 (fun x4_0 Y4_1=>Cnd (x4_0<(3:Int)) (((0:Int)≤x4_0∧x4_0<(↑(3:Nat):Int))∧((True∧(x4_0=(↑(nat_lit 0):Int)→((0:Int)≤x4_0∧x4_0<(↑(3:Nat):Int))∧((True∧(x4_0=(↑(nat_lit 0):Int)→Cnd (x2_0.fst=x3_0.fst) (InI (x4_0+(1:Int))∧Y4_1 (x4_0+(1:Int))) (((0:Int)≤x4_0∧x4_0<(↑(3:Nat):Int))∧((True∧(x4_0=(↑(nat_lit 0):Int)→((0:Int)≤x4_0∧x4_0<(↑(3:Nat):Int))∧((True∧(x4_0=(↑(nat_lit 0):Int)→X_r3_sign (decide (x2_0.fst<x3_0.fst)) true fun x9_0=>K x9_0 (0:Int)))∧(x4_0=(↑(nat_lit 1):Int)→X_r3_sign (decide (x2_0.fst<x3_0.snd.fst)) true fun x9_0=>K x9_0 (0:Int)))∧(x4_0=(↑(nat_lit 2):Int)→X_r3_sign (decide (x2_0.fst<x3_0.snd.snd)) true fun x9_0=>K x9_0 (0:Int))))∧(x4_0=(↑(nat_lit 1):Int)→((0:Int)≤x4_0∧x4_0<(↑(3:Nat):Int))∧((True∧(x4_0=(↑(nat_lit 0):Int)→X_r3_sign (decide (x2_0.snd.fst<x3_0.fst)) true fun x9_0=>K x9_0 (0:Int)))∧(x4_0=(↑(nat_lit 1):Int)→X_r3_sign (decide (x2_0.snd.fst<x3_0.snd.fst)) true fun x9_0=>K x9_0 (0:Int)))∧(x4_0=(↑(nat_lit 2):Int)→X_r3_sign (decide (x2_0.snd.fst<x3_0.snd.snd)) true fun x9_0=>K x9_0 (0:Int))))∧(x4_0=(↑(nat_lit 2):Int)→((0:Int)≤x4_0∧x4_0<(↑(3:Nat):Int))∧((True∧(x4_0=(↑(nat_lit 0):Int)→X_r3_sign (decide (x2_0.snd.snd<x3_0.fst)) true fun x9_0=>K x9_0 (0:Int)))∧(x4_0=(↑(nat_lit 1):Int)→X_r3_sign (decide (x2_0.snd.snd<x3_0.snd.fst)) true fun x9_0=>K x9_0 (0:Int)))∧(x4_0=(↑(nat_lit 2):Int)→X_r3_sign (decide (x2_0.snd.snd<x3_0.snd.snd)) true fun x9_0=>K x9_0 (0:Int))))))∧(x4_0=(↑(nat_lit 1):Int)→Cnd (x2_0.fst=x3_0.snd.fst) (InI (x4_0+(1:Int))∧Y4_1 (x4_0+(1:Int))) (((0:Int)≤x4_0∧x4_0<(↑(3:Nat):Int))∧((True∧(x4_0=(↑(nat_lit 0):Int)→((0:Int)≤x4_0∧x4_0<(↑(3:Nat):Int))∧((True∧(x4_0=(↑(nat_lit 0):Int)→X_r3_sign (decide (x2_0.fst<x3_0.fst)) true fun x9_0=>K x9_0 (0:Int)))∧(x4_0=(↑(nat_lit 1):Int)→X_r3_sign (decide (x2_0.fst<x3_0.snd.fst)) true fun x9_0=>K x9_0 (0:Int)))∧(x4_0=(↑(nat_lit 2):Int)→X_r3_sign (decide (x2_0.fst<x3_0.snd.snd)) true fun x9_0=>K x9_0 (0:Int))))∧(x4_0=(↑(nat_lit 1):Int)→((0:Int)≤x4_0∧x4_0<(↑(3:Nat):Int))∧((True∧(x4_0=(↑(nat_lit 0):Int)→X_r3_sign (decide (x2_0.snd.fst<x3_0.fst)) true fun x9_0=>K x9_0 (0:Int)))∧(x4_0=(↑(nat_lit 1):Int)→X_r3_sign (decide (x2_0.snd.fst<x3_0.snd.fst)) true fun x9_0=>K x9_0 (0:Int)))∧(x4_0=(↑(nat_lit 2):Int)→X_r3_sign (decide (x2_0.snd.fst<x3_0.snd.snd)) true fun x9_0=>K x9_0 (0:Int))))∧(x4_0=(↑(nat_lit 2):Int)→((0:Int)≤x4_0∧x4_0<(↑(3:Nat):Int))∧((True∧(x4_0=(↑(nat_lit 0):Int)→X_r3_sign (decide (x2_0.snd.snd<x3_0.fst)) true fun x9_0=>K x9_0 (0:Int)))∧(x4_0=(↑(nat_lit 1):Int)→X_r3_sign (decide (x2_0.snd.snd<x3_0.snd.fst)) true fun x9_0=>K x9_0 (0:Int)))∧(x4_0=(↑(nat_lit 2):Int)→X_r3_sign (decide (x2_0.snd.snd<x3_0.snd.snd)) true fun x9_0=>K x9_0 (0:Int))))))∧(x4_0=(↑(nat_lit 2):Int)→Cnd (x2_0.fst=x3_0.snd.snd) (InI (x4_0+(1:Int))∧Y4_1 (x4_0+(1:Int))) (((0:Int)≤x4_0∧x4_0<(↑(3:Nat):Int))∧((True∧(x4_0=(↑(nat_lit 0):Int)→((0:Int)≤x4_0∧x4_0<(↑(3:Nat):Int))∧((True∧(x4_0=(↑(nat_lit 0):Int)→X_r3_sign (decide (x2_0.fst<x3_0.fst)) true fun x9_0=>K x9_0 (0:Int)))∧(x4_0=(↑(nat_lit 1):Int)→X_r3_sign (decide (x2_0.fst<x3_0.snd.fst)) true fun x9_0=>K x9_0 (0:Int)))∧(x4_0=(↑(nat_lit 2):Int)→X_r3_sign (decide (x2_0.fst<x3_0.snd.snd)) true fun x9_0=>K x9_0 (0:Int))))∧(x4_0=(↑(nat_lit 1):Int)→((0:Int)≤x4_0∧x4_0<(↑(3:Nat):Int))∧((True∧(x4_0=(↑(nat_lit 0):Int)→X_r3_sign (decide (x2_0.snd.fst<x3_0.fst)) true fun x9_0=>K x9_0 (0:Int)))∧(x4_0=(↑(nat_lit 1):Int)→X_r3_sign (decide (x2_0.snd.fst<x3_0.snd.fst)) true fun x9_0=>K x9_0 (0:Int)))∧(x4_0=(↑(nat_lit 2):Int)→X_r3_sign (decide (x2_0.snd.fst<x3_0.snd.snd)) true fun x9_0=>K x9_0 (0:Int))))∧(x4_0=(↑(nat_lit 2):Int)→((0:Int)≤x4_0∧x4_0<(↑(3:Nat):Int))∧((True∧(x4_0=(↑(nat_lit 0):Int)→X_r3_sign (decide (x2_0.snd.snd<x3_0.fst)) true fun x9_0=>K x9_0 (0:Int)))∧(x4_0=(↑(nat_lit 1):Int)→X_r3_sign (decide (x2_0.snd.snd<x3_0.snd.fst)) true fun x9_0=>K x9_0 (0:Int)))∧(x4_0=(↑(nat_lit 2):Int)→X_r3_sign (decide (x2_0.snd.snd<x3_0.snd.snd)) true fun x9_0=>K x9_0 (0:Int)))))))∧(x4_0=(↑(nat_lit 1):Int)→((0:Int)≤x4_0∧x4_0<(↑(3:Nat):Int))∧((True∧(x4_0=(↑(nat_lit 0):Int)→Cnd (x2_0.snd.fst=x3_0.fst) (InI (x4_0+(1:Int))∧Y4_1 (x4_0+(1:Int))) (((0:Int)≤x4_0∧x4_0<(↑(3:Nat):Int))∧((True∧(x4_0=(↑(nat_lit 0):Int)→((0:Int)≤x4_0∧x4_0<(↑(3:Nat):Int))∧((True∧(x4_0=(↑(nat_lit 0):Int)→X_r3_sign (decide (x2_0.fst<x3_0.fst)) true fun x9_0=>K x9_0 (0:Int)))∧(x4_0=(↑(nat_lit 1):Int)→X_r3_sign (decide (x2_0.fst<x3_0.snd.fst)) true fun x9_0=>K x9_0 (0:Int)))∧(x4_0=(↑(nat_lit 2):Int)→X_r3_sign (decide (x2_0.fst<x3_0.snd.snd)) true fun x9_0=>K x9_0 (0:Int))))∧(x4_0=(↑(nat_lit 1):Int)→((0:Int)≤x4_0∧x4_0<(↑(3:Nat):Int))∧((True∧(x4_0=(↑(nat_lit 0):Int)→X_r3_sign (decide (x2_0.snd.fst<x3_0.fst)) true fun x9_0=>K x9_0 (0:Int)))∧(x4_0=(↑(nat_lit 1):Int)→X_r3_sign (decide (x2_0.snd.fst<x3_0.snd.fst)) true fun x9_0=>K x9_0 (0:Int)))∧(x4_0=(↑(nat_lit 2):Int)→X_r3_sign (decide (x2_0.snd.fst<x3_0.snd.snd)) true fun x9_0=>K x9_0 (0:Int))))∧(x4_0=(↑(nat_lit 2):Int)→((0:Int)≤x4_0∧x4_0<(↑(3:Nat):Int))∧((True∧(x4_0=(↑(nat_lit 0):Int)→X_r3_sign (decide (x2_0.snd.snd<x3_0.fst)) true fun x9_0=>K x9_0 (0:Int)))∧(x4_0=(↑(nat_lit 1):Int)→X_r3_sign (decide (x2_0.snd.snd<x3_0.snd.fst)) true fun x9_0=>K x9_0 (0:Int)))∧(x4_0=(↑(nat_lit 2):Int)→X_r3_sign (decide (x2_0.snd.snd<x3_0.snd.snd)) true fun x9_0=>K x9_0 (0:Int))))))∧(x4_0=(↑(nat_lit 1):Int)→Cnd (x2_0.snd.fst=x3_0.snd.fst) (InI (x4_0+(1:Int))∧Y4_1 (x4_0+(1:Int))) (((0:Int)≤x4_0∧x4_0<(↑(3:Nat):Int))∧((True∧(x4_0=(↑(nat_lit 0):Int)→((0:Int)≤x4_0∧x4_0<(↑(3:Nat):Int))∧((True∧(x4_0=(↑(nat_lit 0):Int)→X_r3_sign (decide (x2_0.fst<x3_0.fst)) true fun x9_0=>K x9_0 (0:Int)))∧(x4_0=(↑(nat_lit 1):Int)→X_r3_sign (decide (x2_0.fst<x3_0.snd.fst)) true fun x9_0=>K x9_0 (0:Int)))∧(x4_0=(↑(nat_lit 2):Int)→X_r3_sign (decide (x2_0.fst<x3_0.snd.snd)) true fun x9_0=>K x9_0 (0:Int))))∧(x4_0=(↑(nat_lit 1):Int)→((0:Int)≤x4_0∧x4_0<(↑(3:Nat):Int))∧((True∧(x4_0=(↑(nat_lit 0):Int)→X_r3_sign (decide (x2_0.snd.fst<x3_0.fst)) true fun x9_0=>K x9_0 (0:Int)))∧(x4_0=(↑(nat_lit 1):Int)→X_r3_sign (decide (x2_0.snd.fst<x3_0.snd.fst)) true fun x9_0=>K x9_0 (0:Int)))∧(x4_0=(↑(nat_lit 2):Int)→X_r3_sign (decide (x2_0.snd.fst<x3_0.snd.snd)) true fun x9_0=>K x9_0 (0:Int))))∧(x4_0=(↑(nat_lit 2):Int)→((0:Int)≤x4_0∧x4_0<(↑(3:Nat):Int))∧((True∧(x4_0=(↑(nat_lit 0):Int)→X_r3_sign (decide (x2_0.snd.snd<x3_0.fst)) true fun x9_0=>K x9_0 (0:Int)))∧(x4_0=(↑(nat_lit 1):Int)→X_r3_sign (decide (x2_0.snd.snd<x3_0.snd.fst)) true fun x9_0=>K x9_0 (0:Int)))∧(x4_0=(↑(nat_lit 2):Int)→X_r3_sign (decide (x2_0.snd.snd<x3_0.snd.snd)) true fun x9_0=>K x9_0 (0:Int))))))∧(x4_0=(↑(nat_lit 2):Int)→Cnd (x2_0.snd.fst=x3_0.snd.snd) (InI (x4_0+(1:Int))∧Y4_1 (x4_0+(1:Int))) (((0:Int)≤x4_0∧x4_0<(↑(3:Nat):Int))∧((True∧(x4_0=(↑(nat_lit 0):Int)→((0:Int)≤x4_0∧x4_0<(↑(3:Nat):Int))∧((True∧(x4_0=(↑(nat_lit 0):Int)→X_r3_sign (decide (x2_0.fst<x3_0.fst)) true fun x9_0=>K x9_0 (0:Int)))∧(x4_0=(↑(nat_lit 1):Int)→X_r3_sign (decide (x2_0.fst<x3_0.snd.fst)) true fun x9_0=>K x9_0 (0:Int)))∧(x4_0=(↑(nat_lit 2):Int)→X_r3_sign (decide (x2_0.fst<x3_0.snd.snd)) true fun x9_0=>K x9_0 (0:Int))))∧(x4_0=(↑(nat_lit 1):Int)→((0:Int)≤x4_0∧x4_0<(↑(3:Nat):Int))∧((True∧(x4_0=(↑(nat_lit 0):Int)→X_r3_sign (decide (x2_0.snd.fst<x3_0.fst)) true fun x9_0=>K x9_0 (0:Int)))∧(x4_0=(↑(nat_lit 1):Int)→X_r3_sign (decide (x2_0.snd.fst<x3_0.snd.fst)) true fun x9_0=>K x9_0 (0:Int)))∧(x4_0=(↑(nat_lit 2):Int)→X_r3_sign (decide (x2_0.snd.fst<x3_0.snd.snd)) true fun x9_0=>K x9_0 (0:Int))))∧(x4_0=(↑(nat_lit 2):Int)→((0:Int)≤x4_0∧x4_0<(↑(3:Nat):Int))∧((True∧(x4_0=(↑(nat_lit 0):Int)→X_r3_sign (decide (x2_0.snd.snd<x3_0.fst)) true fun x9_0=>K x9_0 (0:Int)))∧(x4_0=(↑(nat_lit 1):Int)→X_r3_sign (decide (x2_0.snd.snd<x3_0.snd.fst)) true fun x9_0=>K x9_0 (0:Int)))∧(x4_0=(↑(nat_lit 2):Int)→X_r3_sign (decide (x2_0.snd.snd<x3_0.snd.snd)) true fun x9_0=>K x9_0 (0:Int)))))))∧(x4_0=(↑(nat_lit 2):Int)→((0:Int)≤x4_0∧x4_0<(↑(3:Nat):Int))∧((True∧(x4_0=(↑(nat_lit 0):Int)→Cnd (x2_0.snd.snd=x3_0.fst) (InI (x4_0+(1:Int))∧Y4_1 (x4_0+(1:Int))) (((0:Int)≤x4_0∧x4_0<(↑(3:Nat):Int))∧((True∧(x4_0=(↑(nat_lit 0):Int)→((0:Int)≤x4_0∧x4_0<(↑(3:Nat):Int))∧((True∧(x4_0=(↑(nat_lit 0):Int)→X_r3_sign (decide (x2_0.fst<x3_0.fst)) true fun x9_0=>K x9_0 (0:Int)))∧(x4_0=(↑(nat_lit 1):Int)→X_r3_sign (decide (x2_0.fst<x3_0.snd.fst)) true fun x9_0=>K x9_0 (0:Int)))∧(x4_0=(↑(nat_lit 2):Int)→X_r3_sign (decide (x2_0.fst<x3_0.snd.snd)) true fun x9_0=>K x9_0 (0:Int))))∧(x4_0=(↑(nat_lit 1):Int)→((0:Int)≤x4_0∧x4_0<(↑(3:Nat):Int))∧((True∧(x4_0=(↑(nat_lit 0):Int)→X_r3_sign (decide (x2_0.snd.fst<x3_0.fst)) true fun x9_0=>K x9_0 (0:Int)))∧(x4_0=(↑(nat_lit 1):Int)→X_r3_sign (decide (x2_0.snd.fst<x3_0.snd.fst)) true fun x9_0=>K x9_0 (0:Int)))∧(x4_0=(↑(nat_lit 2):Int)→X_r3_sign (decide (x2_0.snd.fst<x3_0.snd.snd)) true fun x9_0=>K x9_0 (0:Int))))∧(x4_0=(↑(nat_lit 2):Int)→((0:Int)≤x4_0∧x4_0<(↑(3:Nat):Int))∧((True∧(x4_0=(↑(nat_lit 0):Int)→X_r3_sign (decide (x2_0.snd.snd<x3_0.fst)) true fun x9_0=>K x9_0 (0:Int)))∧(x4_0=(↑(nat_lit 1):Int)→X_r3_sign (decide (x2_0.snd.snd<x3_0.snd.fst)) true fun x9_0=>K x9_0 (0:Int)))∧(x4_0=(↑(nat_lit 2):Int)→X_r3_sign (decide (x2_0.snd.snd<x3_0.snd.snd)) true fun x9_0=>K x9_0 (0:Int))))))∧(x4_0=(↑(nat_lit 1):Int)→Cnd (x2_0.snd.snd=x3_0.snd.fst) (InI (x4_0+(1:Int))∧Y4_1 (x4_0+(1:Int))) (((0:Int)≤x4_0∧x4_0<(↑(3:Nat):Int))∧((True∧(x4_0=(↑(nat_lit 0):Int)→((0:Int)≤x4_0∧x4_0<(↑(3:Nat):Int))∧((True∧(x4_0=(↑(nat_lit 0):Int)→X_r3_sign (decide (x2_0.fst<x3_0.fst)) true fun x9_0=>K x9_0 (0:Int)))∧(x4_0=(↑(nat_lit 1):Int)→X_r3_sign (decide (x2_0.fst<x3_0.snd.fst)) true fun x9_0=>K x9_0 (0:Int)))∧(x4_0=(↑(nat_lit 2):Int)→X_r3_sign (decide (x2_0.fst<x3_0.snd.snd)) true fun x9_0=>K x9_0 (0:Int))))∧(x4_0=(↑(nat_lit 1):Int)→((0:Int)≤x4_0∧x4_0<(↑(3:Nat):Int))∧((True∧(x4_0=(↑(nat_lit 0):Int)→X_r3_sign (decide (x2_0.snd.fst<x3_0.fst)) true fun x9_0=>K x9_0 (0:Int)))∧(x4_0=(↑(nat_lit 1):Int)→X_r3_sign (decide (x2_0.snd.fst<x3_0.snd.fst)) true fun x9_0=>K x9_0 (0:Int)))∧(x4_0=(↑(nat_lit 2):Int)→X_r3_sign (decide (x2_0.snd.fst<x3_0.snd.snd)) true fun x9_0=>K x9_0 (0:Int))))∧(x4_0=(↑(nat_lit 2):Int)→((0:Int)≤x4_0∧x4_0<(↑(3:Nat):Int))∧((True∧(x4_0=(↑(nat_lit 0):Int)→X_r3_sign (decide (x2_0.snd.snd<x3_0.fst)) true fun x9_0=>K x9_0 (0:Int)))∧(x4_0=(↑(nat_lit 1):Int)→X_r3_sign (decide (x2_0.snd.snd<x3_0.snd.fst)) true fun x9_0=>K x9_0 (0:Int)))∧(x4_0=(↑(nat_lit 2):Int)→X_r3_sign (decide (x2_0.snd.snd<x3_0.snd.snd)) true fun x9_0=>K x9_0 (0:Int))))))∧(x4_0=(↑(nat_lit 2):Int)→Cnd (x2_0.snd.snd=x3_0.snd.snd) (InI (x4_0+(1:Int))∧Y4_1 (x4_0+(1:Int))) (((0:Int)≤x4_0∧x4_0<(↑(3:Nat):Int))∧((True∧(x4_0=(↑(nat_lit 0):Int)→((0:Int)≤x4_0∧x4_0<(↑(3:Nat):Int))∧((True∧(x4_0=(↑(nat_lit 0):Int)→X_r3_sign (decide (x2_0.fst<x3_0.fst)) true fun x9_0=>K x9_0 (0:Int)))∧(x4_0=(↑(nat_lit 1):Int)→X_r3_sign (decide (x2_0.fst<x3_0.snd.fst)) true fun x9_0=>K x9_0 (0:Int)))∧(x4_0=(↑(nat_lit 2):Int)→X_r3_sign (decide (x2_0.fst<x3_0.snd.snd)) true fun x9_0=>K x9_0 (0:Int))))∧(x4_0=(↑(nat_lit 1):Int)→((0:Int)≤x4_0∧x4_0<(↑(3:Nat):Int))∧((True∧(x4_0=(↑(nat_lit 0):Int)→X_r3_sign (decide (x2_0.snd.fst<x3_0.fst)) true fun x9_0=>K x9_0 (0:Int)))∧(x4_0=(↑(nat_lit 1):Int)→X_r3_sign (decide (x2_0.snd.fst<x3_0.snd.fst)) true fun x9_0=>K x9_0 (0:Int)))∧(x4_0=(↑(nat_lit 2):Int)→X_r3_sign (decide (x2_0.snd.fst<x3_0.snd.snd)) true fun x9_0=>K x9_0 (0:Int))))∧(x4_0=(↑(nat_lit 2):Int)→((0:Int)≤x4_0∧x4_0<(↑(3:Nat):Int))∧((True∧(x4_0=(↑(nat_lit 0):Int)→X_r3_sign (decide (x2_0.snd.snd<x3_0.fst)) true fun x9_0=>K x9_0 (0:Int)))∧(x4_0=(↑(nat_lit 1):Int)→X_r3_sign (decide (x2_0.snd.snd<x3_0.snd.fst)) true fun x9_0=>K x9_0 (0:Int)))∧(x4_0=(↑(nat_lit 2):Int)→X_r3_sign (decide (x2_0.snd.snd<x3_0.snd.snd)) true fun x9_0=>K x9_0 (0:Int))))))) (K (0:Int) (0:Int))) (0:Int)))))) (K (0:Int) (8:Int))) (K (0:Int) x1_0)) (K (0:Int) x0_0)
def z23 (a:Val) (b:Val) (K:Int→Int→Prop):Prop:=j9d q27 z8c q56 a b K
abbrev y5c:Type:=Subj→Ex→(Bool→Prop)→Prop
def w9p (X_r5_Lookup:v92) (X_r6_IsTest:q11) (X_r3_Equal:z4h) (X_r11_within:j9c) (X_r11_contains:w7p) (X_r3_Compare:v5o) (s:Subj) (e:Ex) (K:Bool→Prop):Prop:=X_r5_Lookup (Subj.mk s.1) e.2 e.3 fun x0_0 x0_1=>Cnd (x0_1=true) (X_r6_IsTest e.1 fun x1_0=>Cnd (x1_0=true) (Cnd (e.1=(6:Int)) (K true) (Cnd (e.1=(8:Int)) (Lp1 (fun x2_0 Y2_1=>e.4.length≤(9223372036854775807:Nat)→Cnd (x2_0<(↑e.4.length:Int)) (((0:Int)≤x2_0∧x2_0<(↑e.4.length:Int))∧ ∀y4,e.4[x2_0.toNat]? =some y4→X_r3_Equal x0_0 y4 fun x6_0=>Cnd (x6_0=true) (K true) (InI (x2_0+(1:Int))∧Y2_1 (x2_0+(1:Int)))) (K false)) (0:Int)) (e.4.length≤(9223372036854775807:Nat)→Cnd ((↑e.4.length:Int)=(0:Int)) (K false) (((0:Int)≤(0:Int)∧(0:Int)<(↑e.4.length:Int))∧ ∀y3,e.4[Int.toNat (0:Int)]? =some y3→Cnd (x0_0.1=(3:Int)) (Cnd (e.1=(7:Int)) (X_r3_Equal x0_0 y3 fun x5_0=>K x5_0) (Cnd (e.1=(9:Int)) (Cnd (y3.1=(3:Int)) (X_r11_within x0_0.3 y3.3 (0:Int) fun x5_0=>K x5_0) (K false)) (Cnd (e.1=(10:Int)) (Cnd (y3.1=(3:Int)) (InI ((↑x0_0.3.size:Int) - (↑y3.3.size:Int))∧X_r11_within x0_0.3 y3.3 ((↑x0_0.3.size:Int) - (↑y3.3.size:Int)) fun x5_0=>K x5_0) (K false)) (Cnd (e.1=(11:Int)) (X_r11_contains x0_0 y3 fun x5_0=>K x5_0) (X_r3_Compare x0_0 y3 fun x5_0 x5_1=>Cnd (x5_1=(0:Int)) (Cnd (e.1=(12:Int)) (K (decide (x5_0<(0:Int)))) (Cnd (e.1=(13:Int)) (K (decide (x5_0≤(0:Int)))) (Cnd (e.1=(14:Int)) (K (decide ((0:Int)<x5_0))) (K (decide ((0:Int)≤x5_0)))))) (K false)))))) (Cnd (e.1=(7:Int)) (X_r3_Equal x0_0 y3 fun x5_0=>K x5_0) (Cnd (e.1=(9:Int)) (K false) (Cnd (e.1=(10:Int)) (K false) (Cnd (e.1=(11:Int)) (X_r11_contains x0_0 y3 fun x5_0=>K x5_0) (X_r3_Compare x0_0 y3 fun x5_0 x5_1=>Cnd (x5_1=(0:Int)) (Cnd (e.1=(12:Int)) (K (decide (x5_0<(0:Int)))) (Cnd (e.1=(13:Int)) (K (decide (x5_0≤(0:Int)))) (Cnd (e.1=(14:Int)) (K (decide ((0:Int)<x5_0))) (K (decide ((0:Int)≤x5_0)))))) (K false)))))))))) (K false)) (K false)
def j7k (s:Subj) (e:Ex) (K:Bool→Prop):Prop:=w9p j26 q1f q7i z22 z3v z23 s e K
abbrev w9q:Type:=Subj→List (ByteArray)→Ex→(Bool→Prop)→Prop
def w9r (X_r1_Has:q6x) (X_r11_Test:y5c) (X:w9q) (s:Subj) (in_:List (ByteArray)) (e:Ex) (K:Bool→Prop):Prop:=Cnd (e.1=(1:Int)) (K true) (Cnd (e.1=(2:Int)) (Lp1 (fun x0_0 Y0_1=>e.5.length≤(9223372036854775807:Nat)→Cnd (x0_0<(↑e.5.length:Int)) (((0:Int)≤x0_0∧x0_0<(↑e.5.length:Int))∧ ∀y2,e.5[x0_0.toNat]? =some y2→X (Subj.mk s.1) in_ (Ex.mk y2.1 y2.2 y2.3 y2.4 y2.5) fun x4_0=>Cnd (x4_0=true) (InI (x0_0+(1:Int))∧Y0_1 (x0_0+(1:Int))) (K false)) (K true)) (0:Int)) (Cnd (e.1=(3:Int)) (Lp1 (fun x0_0 Y0_1=>e.5.length≤(9223372036854775807:Nat)→Cnd (x0_0<(↑e.5.length:Int)) (((0:Int)≤x0_0∧x0_0<(↑e.5.length:Int))∧ ∀y2,e.5[x0_0.toNat]? =some y2→X (Subj.mk s.1) in_ (Ex.mk y2.1 y2.2 y2.3 y2.4 y2.5) fun x4_0=>Cnd (x4_0=true) (K true) (InI (x0_0+(1:Int))∧Y0_1 (x0_0+(1:Int)))) (K false)) (0:Int)) (Cnd (e.1=(4:Int)) (e.5.length≤(9223372036854775807:Nat)→Cnd ((0:Int)<(↑e.5.length:Int)) (((0:Int)≤(0:Int)∧(0:Int)<(↑e.5.length:Int))∧ ∀y1,e.5[Int.toNat (0:Int)]? =some y1→X (Subj.mk s.1) in_ (Ex.mk y1.1 y1.2 y1.3 y1.4 y1.5) fun x3_0=>K (match decide ((x3_0,()).fst=true) with|true=>false|false=>true)) (K false)) (Cnd (e.1=(5:Int)) (X_r1_Has in_ e.3 fun x0_0=>K x0_0) (X_r11_Test (Subj.mk s.1) (Ex.mk e.1 e.2 e.3 e.4 e.5) fun x0_0=>K x0_0)))))
def y5d (s:Subj) (in_:List (ByteArray)) (e:Ex) (K:Bool→Prop):Prop:= ∀X:w9q,(∀s in_ e K,w9r q4h j7k X s in_ e K→X s in_ e K)→X s in_ e K
abbrev v1y:Type:=Int→Int→(Int→Prop)→Prop
def j27 (x:Int) (n:Int) (K:Int→Prop):Prop:=n≠(0:Int)∧Cnd (x.tmod n<(0:Int)) (InI (x.tmod n+n)∧K (x.tmod n+n)) (K (x.tmod n))
abbrev z8d:Type:=List (Int)→List (Int)→Int→(Bool→Prop)→Prop
def q5s (X_law12_awake:z05) (X_d_New:v1x) (X_d_Environment:q8d) (X_d_Subject:z56) (X_segment_Members:q1e) (X_d_Mod:v1y) (X_d_Expr:q51) (X_r1_Same:z1q) (codes:List (Int)) (who:List (Int)) (turn:Int) (K:Bool→Prop):Prop:=X_law12_awake fun x0_0=>Cnd (x0_0=true) (X_d_New codes (300:Int) fun x1_0 x1_1=>X_d_Environment x1_0 x1_1 (10:Int) fun x2_0 x2_1=>X_d_New who (60:Int) fun x3_0 x3_1=>X_d_Subject x3_0 x3_1 fun x4_0 _=>x2_0.3.length≤(9223372036854775807:Nat)→Cnd ((↑x2_0.3.length:Int)=(0:Int)) (X_segment_Members x2_0.3 (Subj.mk x4_0.1) fun x6_0=>x6_0.length≤(9223372036854775807:Nat)→K (decide ((↑x6_0.length:Int)=(0:Int)))) (x2_0.3.length≤(9223372036854775807:Nat)→X_d_Mod turn (↑x2_0.3.length:Int) fun x7_0=>((0:Int)≤x7_0∧x7_0≤(↑x2_0.3.length:Int)∧(↑x2_0.3.length:Int)≤(↑x2_0.3.length:Int))∧((0:Int)≤(0:Int)∧(0:Int)≤x7_0∧x7_0≤(↑x2_0.3.length:Int))∧Sml ([]++List.drop x7_0.toNat (List.take (↑x2_0.3.length:Int).toNat x2_0.3)).length∧Sml ([]++List.drop x7_0.toNat (List.take (↑x2_0.3.length:Int).toNat x2_0.3)++List.drop (Int.toNat (0:Int)) (List.take x7_0.toNat x2_0.3)).length∧((0:Int)≤(0:Int)∧(0:Int)<(↑x2_0.3.length:Int))∧ ∀y8,x2_0.3[Int.toNat (0:Int)]? =some y8→X_d_Expr x1_0 x2_1 [y8.1] (2:Int) fun x10_0 _=>Sml ([]++List.drop x7_0.toNat (List.take (↑x2_0.3.length:Int).toNat x2_0.3)++List.drop (Int.toNat (0:Int)) (List.take x7_0.toNat x2_0.3)++[Seg.mk (ByteArray.mk (Array.mk [122,101,116,97])) (ByteArray.mk (Array.mk [117,115,101,114])) [] [] (Ex.mk x10_0.1 x10_0.2 x10_0.3 x10_0.4 x10_0.5)]).length∧X_segment_Members x2_0.3 (Subj.mk x4_0.1) fun x11_0=>X_segment_Members ([]++List.drop x7_0.toNat (List.take (↑x2_0.3.length:Int).toNat x2_0.3)++List.drop (Int.toNat (0:Int)) (List.take x7_0.toNat x2_0.3)++[Seg.mk (ByteArray.mk (Array.mk [122,101,116,97])) (ByteArray.mk (Array.mk [117,115,101,114])) [] [] (Ex.mk x10_0.1 x10_0.2 x10_0.3 x10_0.4 x10_0.5)]) (Subj.mk x4_0.1) fun x12_0=>Jn1 (fun x13_0=>X_r1_Same x11_0 x13_0 fun x14_0=>K x14_0) fun Y13_0=>x12_0.length≤(9223372036854775807:Nat)→Cnd ((0:Int)<(↑x12_0.length:Int)) (x12_0.length≤(9223372036854775807:Nat)→InI ((↑x12_0.length:Int) - (1:Int))∧((0:Int)≤(↑x12_0.length:Int) - (1:Int)∧(↑x12_0.length:Int) - (1:Int)<(↑x12_0.length:Int))∧ ∀y16,x12_0[((↑x12_0.length:Int) - (1:Int)).toNat]? =some y16→Cnd (y16=ByteArray.mk (Array.mk [122,101,116,97])) (x12_0.length≤(9223372036854775807:Nat)→InI ((↑x12_0.length:Int) - (1:Int))∧((0:Int)≤(↑x12_0.length:Int) - (1:Int)∧(↑x12_0.length:Int) - (1:Int)≤(↑x12_0.length:Int))∧Y13_0 (List.take ((↑x12_0.length:Int) - (1:Int)).toNat x12_0)) (Y13_0 x12_0)) (Y13_0 x12_0))) (K false)
def q1j (codes:List (Int)) (who:List (Int)) (turn:Int) (K:Bool→Prop):Prop:=q5s q6f j23 q31 q9e q01 j27 q5a q6n codes who turn K
end Go.En
end
noncomputable section
set_option maxRecDepth 100000
namespace Go.Proofs
open Go.Shelf
def Tryz.laysC172_ren:Go.Shelf.Ren:=⟨fun|172=>231|244=>238|245=>239|247=>244|279=>245|280=>246|281=>247|282=>248|287=>250|316=>251|171=>253|205=>252|321=>254|322=>255|243=>256|246=>257|283=>258|284=>259|285=>260|286=>261|129=>102|317=>262|318=>263|319=>264|320=>265|337=>266|338=>267|n=>n,fun|9=>9|3=>3|75=>288|76=>289|4=>4|5=>5|167=>298|37=>22|0=>0|85=>299|2=>2|168=>301|53=>187|175=>304|46=>121|210=>308|127=>312|145=>315|143=>313|21=>21|171=>317|173=>319|212=>322|51=>185|20=>20|213=>323|232=>324|233=>325|80=>84|n=>n,fun|15=>6|16=>7|17=>8|18=>9|19=>10|n=>n⟩
theorem Tryz.laysC172:Go.Proofs.LaysC.n172 Tryz.prog Tryz.laysC172_ren:={
 mixed:=by kernel_rfl
 f129:=Tryz.func102.trans (congrArg some (by kernel_rfl))
 f171:=Tryz.func253.trans (congrArg some (by kernel_rfl))
 f172:=Tryz.func231.trans (congrArg some (by kernel_rfl))
 f205:=Tryz.func252.trans (congrArg some (by kernel_rfl))
 f243:=Tryz.func256.trans (congrArg some (by kernel_rfl))
 f244:=Tryz.func238.trans (congrArg some (by kernel_rfl))
 f245:=Tryz.func239.trans (congrArg some (by kernel_rfl))
 f246:=Tryz.func257.trans (congrArg some (by kernel_rfl))
 f247:=Tryz.func244.trans (congrArg some (by kernel_rfl))
 f279:=Tryz.func245.trans (congrArg some (by kernel_rfl))
 f280:=Tryz.func246.trans (congrArg some (by kernel_rfl))
 f281:=Tryz.func247.trans (congrArg some (by kernel_rfl))
 f282:=Tryz.func248.trans (congrArg some (by kernel_rfl))
 f283:=Tryz.func258.trans (congrArg some (by kernel_rfl))
 f284:=Tryz.func259.trans (congrArg some (by kernel_rfl))
 f285:=Tryz.func260.trans (congrArg some (by kernel_rfl))
 f286:=Tryz.func261.trans (congrArg some (by kernel_rfl))
 f287:=Tryz.func250.trans (congrArg some (by kernel_rfl))
 f316:=Tryz.func251.trans (congrArg some (by kernel_rfl))
 f317:=Tryz.func262.trans (congrArg some (by kernel_rfl))
 f318:=Tryz.func263.trans (congrArg some (by kernel_rfl))
 f319:=Tryz.func264.trans (congrArg some (by kernel_rfl))
 f320:=Tryz.func265.trans (congrArg some (by kernel_rfl))
 f321:=Tryz.func254.trans (congrArg some (by kernel_rfl))
 f322:=Tryz.func255.trans (congrArg some (by kernel_rfl))
 f337:=Tryz.func266.trans (congrArg some (by kernel_rfl))
 f338:=Tryz.func267.trans (congrArg some (by kernel_rfl))
 t0:=Tryz.underlying0
 a0:=Tryz.isAgg0
 z0:=Tryz.sizeOf0
 v0:=Tryz.zeroValue0
 t2:=Tryz.underlying2
 a2:=Tryz.isAgg2
 z2:=Tryz.sizeOf2
 v2:=Tryz.zeroValue2
 t3:=Tryz.underlying3
 a3:=Tryz.isAgg3
 z3:=Tryz.sizeOf3
 v3:=Tryz.zeroValue3
 t4:=Tryz.underlying4
 a4:=Tryz.isAgg4
 z4:=Tryz.sizeOf4
 v4:=Tryz.zeroValue4
 t5:=Tryz.underlying5
 a5:=Tryz.isAgg5
 z5:=Tryz.sizeOf5
 v5:=Tryz.zeroValue5
 t9:=Tryz.underlying9
 a9:=Tryz.isAgg9
 z9:=Tryz.sizeOf9
 v9:=Tryz.zeroValue9
 t20:=Tryz.underlying20
 a20:=Tryz.isAgg20
 z20:=Tryz.sizeOf20
 v20:=Tryz.zeroValue20
 t21:=Tryz.underlying21
 a21:=Tryz.isAgg21
 z21:=Tryz.sizeOf21
 v21:=Tryz.zeroValue21
 t37:=Tryz.underlying22
 a37:=Tryz.isAgg22
 z37:=Tryz.sizeOf22
 v37:=Tryz.zeroValue22
 t46:=Tryz.underlying121
 a46:=Tryz.isAgg121
 z46:=Tryz.sizeOf121
 v46:=Tryz.zeroValue121
 t51:=Tryz.underlying185
 a51:=Tryz.isAgg185
 z51:=Tryz.sizeOf185
 v51:=Tryz.zeroValue185
 t53:=Tryz.underlying187
 a53:=Tryz.isAgg187
 z53:=Tryz.sizeOf187
 v53:=Tryz.zeroValue187
 t75:=Tryz.underlying288
 a75:=Tryz.isAgg288
 z75:=Tryz.sizeOf288
 v75:=Tryz.zeroValue288
 t76:=Tryz.underlying289
 a76:=Tryz.isAgg289
 z76:=Tryz.sizeOf289
 v76:=Tryz.zeroValue289
 t85:=Tryz.underlying299
 a85:=Tryz.isAgg299
 z85:=Tryz.sizeOf299
 v85:=Tryz.zeroValue299
 t127:=Tryz.underlying312
 a127:=Tryz.isAgg312
 z127:=Tryz.sizeOf312
 v127:=Tryz.zeroValue312
 t143:=Tryz.underlying313
 a143:=Tryz.isAgg313
 z143:=Tryz.sizeOf313
 v143:=Tryz.zeroValue313
 t145:=Tryz.underlying315
 a145:=Tryz.isAgg315
 z145:=Tryz.sizeOf315
 v145:=Tryz.zeroValue315
 t167:=Tryz.underlying298
 a167:=Tryz.isAgg298
 z167:=Tryz.sizeOf298
 v167:=Tryz.zeroValue298
 t168:=Tryz.underlying301
 a168:=Tryz.isAgg301
 z168:=Tryz.sizeOf301
 v168:=Tryz.zeroValue301
 t171:=Tryz.underlying317
 a171:=Tryz.isAgg317
 z171:=Tryz.sizeOf317
 v171:=Tryz.zeroValue317
 t173:=Tryz.underlying319
 a173:=Tryz.isAgg319
 z173:=Tryz.sizeOf319
 v173:=Tryz.zeroValue319
 t175:=Tryz.underlying304
 a175:=Tryz.isAgg304
 z175:=Tryz.sizeOf304
 v175:=Tryz.zeroValue304
 t210:=Tryz.underlying308
 a210:=Tryz.isAgg308
 z210:=Tryz.sizeOf308
 v210:=Tryz.zeroValue308
 t212:=Tryz.underlying322
 a212:=Tryz.isAgg322
 z212:=Tryz.sizeOf322
 v212:=Tryz.zeroValue322
 t213:=Tryz.underlying323
 a213:=Tryz.isAgg323
 z213:=Tryz.sizeOf323
 t232:=Tryz.underlying324
 a232:=Tryz.isAgg324
 z232:=Tryz.sizeOf324
 v232:=Tryz.zeroValue324
 t233:=Tryz.underlying325
 a233:=Tryz.isAgg325
 z233:=Tryz.sizeOf325
 v233:=Tryz.zeroValue325
 g15:=by kernel_rfl
 g16:=by kernel_rfl
 g17:=by kernel_rfl
 g18:=by kernel_rfl
 g19:=by kernel_rfl
 t80:=Tryz.underlying84
 a80:=Tryz.isAgg84
 z80:=Tryz.sizeOf84
 v80:=Tryz.zeroValue84
 i0:=by kernel_rfl
 i2:=by kernel_rfl
 i3:=by kernel_rfl
 i4:=by kernel_rfl
 i5:=by kernel_rfl
 i9:=by kernel_rfl
 i20:=by kernel_rfl
 i21:=by kernel_rfl
 i37:=by kernel_rfl
 i46:=by kernel_rfl
 i51:=by kernel_rfl
 i53:=by kernel_rfl
 i75:=by kernel_rfl
 i76:=by kernel_rfl
 i80:=by kernel_rfl
 i85:=by kernel_rfl
 i127:=by kernel_rfl
 i143:=by kernel_rfl
 i145:=by kernel_rfl
 i167:=by kernel_rfl
 i168:=by kernel_rfl
 i171:=by kernel_rfl
 i173:=by kernel_rfl
 i175:=by kernel_rfl
 i210:=by kernel_rfl
 i212:=by kernel_rfl
 i232:=by kernel_rfl
 i233:=by kernel_rfl
 m15:=by kernel_rfl
 m16:=by kernel_rfl
 m17:=by kernel_rfl
 m18:=by kernel_rfl
 m19:=by kernel_rfl
 c0:=by kernel_rfl
 c2:=by kernel_rfl
 c3:=by kernel_rfl
 c4:=by kernel_rfl
 c5:=by kernel_rfl
 c9:=by kernel_rfl
 c20:=by kernel_rfl
 c21:=by kernel_rfl
 c37:=by kernel_rfl
 c46:=by kernel_rfl
 c51:=by kernel_rfl
 c53:=by kernel_rfl
 c75:=by kernel_rfl
 c76:=by kernel_rfl
 c80:=by kernel_rfl
 c85:=by kernel_rfl
 c127:=by kernel_rfl
 c143:=by kernel_rfl
 c145:=by kernel_rfl
 c167:=by kernel_rfl
 c168:=by kernel_rfl
 c171:=by kernel_rfl
 c173:=by kernel_rfl
 c175:=by kernel_rfl
 c210:=by kernel_rfl
 c212:=by kernel_rfl
 c213:=by kernel_rfl
 c232:=by kernel_rfl
 c233:=by kernel_rfl}
open Go.RowKit in
theorem Tryz.strconv_Atoi_ok (s:ByteArray) (hmax:s.size≤9223372036854775806) (v:Int) (h:Lib.atoiAll s.data.toList= .ok v) (w:World):
  Calls Tryz.prog 231 #[.string s] w fun e w'=>e= .returned (.tuple #[.int .i64 v,.nilIface])∧(w'=w∨ ∃t,w'=Lib.bytesWorld w 5 t):=Any.strconv_Atoi_ok Tryz.laysC172 s hmax v h w
open Go.RowKit in
theorem Tryz.strconv_Atoi_syntax (s:ByteArray) (hlim:s.size≤281474976710656) (h:Lib.atoiAll s.data.toList=Go.Lib.NumEnd.syntax) (ev:Value) (w:World) (hv:w.cell? ⟨6,0,none⟩=some ev) (hev:ev= .nilIface∨ ∃te pe,ev= .iface te pe):
  Calls Tryz.prog 231 #[.string s] w fun e w'=> ∃N,e= .returned (.tuple #[.int .i64 (0),.iface 301 (.pointer (some ⟨N,0,none⟩))])∧w.heap.size≤N∧w'.heap[N]? =some (.cells #[.string ⟨#[65,116,111,105]⟩,.string s,ev] 308 (0,0))∧Below w.heap.size w w':=Any.strconv_Atoi_syntax Tryz.laysC172 s hlim h ev w hv hev
open Go.RowKit in
theorem Tryz.strconv_Atoi_range (s:ByteArray) (hlim:s.size≤281474976710656) (h:Lib.atoiAll s.data.toList= .range) (ev:Value) (w:World) (hv:w.cell? ⟨7,0,none⟩=some ev) (hev:ev= .nilIface∨ ∃te pe,ev= .iface te pe):
  Calls Tryz.prog 231 #[.string s] w fun e w'=> ∃N,e= .returned (.tuple #[.int .i64 (Lib.atoiSat s.data.toList),.iface 301 (.pointer (some ⟨N,0,none⟩))])∧w.heap.size≤N∧w'.heap[N]? =some (.cells #[.string ⟨#[65,116,111,105]⟩,.string s,ev] 308 (0,0))∧Below w.heap.size w w':=Any.strconv_Atoi_range Tryz.laysC172 s hlim h ev w hv hev
def Tryz.lays144_ren:Go.Shelf.Ren:=⟨fun|144=>172|143=>194|219=>217|217=>225|225=>226|224=>227|267=>228|266=>233|314=>234|n=>n,fun|9=>9|4=>4|3=>3|5=>5|46=>121|146=>291|51=>185|n=>n,fun|1=>5|n=>n⟩
theorem Tryz.lays144:Go.Proofs.Lays.n144 Tryz.prog Tryz.lays144_ren:={
 mixed:=by kernel_rfl
 f143:=Tryz.func194.trans (congrArg some (by kernel_rfl))
 f144:=Tryz.func172.trans (congrArg some (by kernel_rfl))
 f217:=Tryz.func225.trans (congrArg some (by kernel_rfl))
 f219:=Tryz.func217.trans (congrArg some (by kernel_rfl))
 f224:=Tryz.func227.trans (congrArg some (by kernel_rfl))
 f225:=Tryz.func226.trans (congrArg some (by kernel_rfl))
 f266:=Tryz.func233.trans (congrArg some (by kernel_rfl))
 f267:=Tryz.func228.trans (congrArg some (by kernel_rfl))
 f314:=Tryz.func234.trans (congrArg some (by kernel_rfl))
 t3:=Tryz.underlying3
 a3:=Tryz.isAgg3
 z3:=Tryz.sizeOf3
 v3:=Tryz.zeroValue3
 t4:=Tryz.underlying4
 a4:=Tryz.isAgg4
 z4:=Tryz.sizeOf4
 v4:=Tryz.zeroValue4
 t5:=Tryz.underlying5
 a5:=Tryz.isAgg5
 z5:=Tryz.sizeOf5
 v5:=Tryz.zeroValue5
 t9:=Tryz.underlying9
 a9:=Tryz.isAgg9
 z9:=Tryz.sizeOf9
 v9:=Tryz.zeroValue9
 t46:=Tryz.underlying121
 a46:=Tryz.isAgg121
 z46:=Tryz.sizeOf121
 v46:=Tryz.zeroValue121
 t51:=Tryz.underlying185
 a51:=Tryz.isAgg185
 z51:=Tryz.sizeOf185
 v51:=Tryz.zeroValue185
 t146:=Tryz.underlying291
 a146:=Tryz.isAgg291
 z146:=Tryz.sizeOf291
 v146:=Tryz.zeroValue291
 g1:=by kernel_rfl}
open Go.RowKit Go.Lib in
theorem Tryz.strings_Contains (s sub:ByteArray) (m:Int) (w:World) (hs:s.size<4294967281) (hm:w.cell? ⟨5,0,none⟩=some (.int .i64 m)):
  Calls Tryz.prog 172 #[.string s,.string sub] w fun e w'=>e= .returned (.bool (Lib.contains s.data.toList sub.data.toList))∧w'=w:=Any.strings_Contains Tryz.lays144 s sub m w hs hm
def Tryz.lays190_ren:Go.Shelf.Ren:=⟨fun|190=>30|125=>58|258=>57|128=>101|129=>102|302=>92|303=>93|304=>94|305=>95|306=>96|307=>97|308=>98|309=>99|310=>100|333=>133|329=>134|330=>135|334=>136|335=>137|336=>138|344=>179|n=>n,fun|31=>30|9=>9|3=>3|46=>121|0=>0|51=>185|53=>187|4=>4|183=>177|182=>176|131=>182|5=>5|218=>220|222=>224|228=>249|229=>250|n=>n,fun|n=>n⟩
theorem Tryz.lays190:Go.Proofs.Lays.n190 Tryz.prog Tryz.lays190_ren:={
 mixed:=by kernel_rfl
 f125:=Tryz.func58.trans (congrArg some (by kernel_rfl))
 f128:=Tryz.func101.trans (congrArg some (by kernel_rfl))
 f129:=Tryz.func102.trans (congrArg some (by kernel_rfl))
 f190:=Tryz.func30.trans (congrArg some (by kernel_rfl))
 f258:=Tryz.func57.trans (congrArg some (by kernel_rfl))
 f302:=Tryz.func92.trans (congrArg some (by kernel_rfl))
 f303:=Tryz.func93.trans (congrArg some (by kernel_rfl))
 f304:=Tryz.func94.trans (congrArg some (by kernel_rfl))
 f305:=Tryz.func95.trans (congrArg some (by kernel_rfl))
 f306:=Tryz.func96.trans (congrArg some (by kernel_rfl))
 f307:=Tryz.func97.trans (congrArg some (by kernel_rfl))
 f308:=Tryz.func98.trans (congrArg some (by kernel_rfl))
 f309:=Tryz.func99.trans (congrArg some (by kernel_rfl))
 f310:=Tryz.func100.trans (congrArg some (by kernel_rfl))
 f329:=Tryz.func134.trans (congrArg some (by kernel_rfl))
 f330:=Tryz.func135.trans (congrArg some (by kernel_rfl))
 f333:=Tryz.func133.trans (congrArg some (by kernel_rfl))
 f334:=Tryz.func136.trans (congrArg some (by kernel_rfl))
 f335:=Tryz.func137.trans (congrArg some (by kernel_rfl))
 f336:=Tryz.func138.trans (congrArg some (by kernel_rfl))
 f344:=Tryz.func179.trans (congrArg some (by kernel_rfl))
 t0:=Tryz.underlying0
 a0:=Tryz.isAgg0
 z0:=Tryz.sizeOf0
 v0:=Tryz.zeroValue0
 t3:=Tryz.underlying3
 a3:=Tryz.isAgg3
 z3:=Tryz.sizeOf3
 v3:=Tryz.zeroValue3
 t4:=Tryz.underlying4
 a4:=Tryz.isAgg4
 z4:=Tryz.sizeOf4
 v4:=Tryz.zeroValue4
 t5:=Tryz.underlying5
 a5:=Tryz.isAgg5
 z5:=Tryz.sizeOf5
 v5:=Tryz.zeroValue5
 t9:=Tryz.underlying9
 a9:=Tryz.isAgg9
 z9:=Tryz.sizeOf9
 v9:=Tryz.zeroValue9
 t31:=Tryz.underlying30
 a31:=Tryz.isAgg30
 z31:=Tryz.sizeOf30
 v31:=Tryz.zeroValue30
 t46:=Tryz.underlying121
 a46:=Tryz.isAgg121
 z46:=Tryz.sizeOf121
 v46:=Tryz.zeroValue121
 t51:=Tryz.underlying185
 a51:=Tryz.isAgg185
 z51:=Tryz.sizeOf185
 v51:=Tryz.zeroValue185
 t53:=Tryz.underlying187
 a53:=Tryz.isAgg187
 z53:=Tryz.sizeOf187
 v53:=Tryz.zeroValue187
 t131:=Tryz.underlying182
 a131:=Tryz.isAgg182
 z131:=Tryz.sizeOf182
 v131:=Tryz.zeroValue182
 t182:=Tryz.underlying176
 a182:=Tryz.isAgg176
 z182:=Tryz.sizeOf176
 v182:=Tryz.zeroValue176
 t183:=Tryz.underlying177
 a183:=Tryz.isAgg177
 z183:=Tryz.sizeOf177
 v183:=Tryz.zeroValue177
 t218:=Tryz.underlying220
 a218:=Tryz.isAgg220
 z218:=Tryz.sizeOf220
 v218:=Tryz.zeroValue220
 t222:=Tryz.underlying224
 a222:=Tryz.isAgg224
 z222:=Tryz.sizeOf224
 v222:=Tryz.zeroValue224
 t228:=Tryz.underlying249
 a228:=Tryz.isAgg249
 z228:=Tryz.sizeOf249
 v228:=Tryz.zeroValue249
 t229:=Tryz.underlying250
 a229:=Tryz.isAgg250
 z229:=Tryz.sizeOf250
 v229:=Tryz.zeroValue250}
open Go.Sort Go.RowKit in
theorem Tryz.slices_Sort_string (blk off cap:Nat) (ss:List (List UInt8)) (w:World) (hH:Holds encStr w blk off ss.toArray) (hblk:blk<w.heap.size) (hsz:ss.length<4611686018427387904):
  Calls Tryz.prog 30 #[.slice (some ⟨blk,off,none⟩) ss.length cap] w fun e w'=>
   e= .returned (.tuple #[])∧ ∃n os,w'=grow (putRow encStr (Sort.ahead w n) blk off (ss.mergeSort fun x y=>decide (x≤y)).toArray) os:=Any.slices_Sort_string Tryz.lays190 blk off cap ss w hH hblk hsz
def Tryz.lays146_ren:Go.Shelf.Ren:=⟨fun|146=>221|221=>229|268=>235|138=>236|143=>194|195=>241|197=>242|218=>243|219=>217|260=>249|217=>225|225=>226|224=>227|267=>228|266=>233|314=>234|n=>n,fun|9=>9|31=>30|3=>3|4=>4|0=>0|105=>296|21=>21|5=>5|46=>121|119=>279|139=>282|138=>281|146=>291|51=>185|n=>n,fun|1=>5|3=>3|4=>4|n=>n⟩
theorem Tryz.lays146:Go.Proofs.Lays.n146 Tryz.prog Tryz.lays146_ren:={
 mixed:=by kernel_rfl
 f138:=Tryz.func236.trans (congrArg some (by kernel_rfl))
 f143:=Tryz.func194.trans (congrArg some (by kernel_rfl))
 f146:=Tryz.func221.trans (congrArg some (by kernel_rfl))
 f195:=Tryz.func241.trans (congrArg some (by kernel_rfl))
 f197:=Tryz.func242.trans (congrArg some (by kernel_rfl))
 f217:=Tryz.func225.trans (congrArg some (by kernel_rfl))
 f218:=Tryz.func243.trans (congrArg some (by kernel_rfl))
 f219:=Tryz.func217.trans (congrArg some (by kernel_rfl))
 f221:=Tryz.func229.trans (congrArg some (by kernel_rfl))
 f224:=Tryz.func227.trans (congrArg some (by kernel_rfl))
 f225:=Tryz.func226.trans (congrArg some (by kernel_rfl))
 f260:=Tryz.func249.trans (congrArg some (by kernel_rfl))
 f266:=Tryz.func233.trans (congrArg some (by kernel_rfl))
 f267:=Tryz.func228.trans (congrArg some (by kernel_rfl))
 f268:=Tryz.func235.trans (congrArg some (by kernel_rfl))
 f314:=Tryz.func234.trans (congrArg some (by kernel_rfl))
 t0:=Tryz.underlying0
 a0:=Tryz.isAgg0
 z0:=Tryz.sizeOf0
 v0:=Tryz.zeroValue0
 t3:=Tryz.underlying3
 a3:=Tryz.isAgg3
 z3:=Tryz.sizeOf3
 v3:=Tryz.zeroValue3
 t4:=Tryz.underlying4
 a4:=Tryz.isAgg4
 z4:=Tryz.sizeOf4
 v4:=Tryz.zeroValue4
 t5:=Tryz.underlying5
 a5:=Tryz.isAgg5
 z5:=Tryz.sizeOf5
 v5:=Tryz.zeroValue5
 t9:=Tryz.underlying9
 a9:=Tryz.isAgg9
 z9:=Tryz.sizeOf9
 v9:=Tryz.zeroValue9
 t21:=Tryz.underlying21
 a21:=Tryz.isAgg21
 z21:=Tryz.sizeOf21
 v21:=Tryz.zeroValue21
 t31:=Tryz.underlying30
 a31:=Tryz.isAgg30
 z31:=Tryz.sizeOf30
 v31:=Tryz.zeroValue30
 t46:=Tryz.underlying121
 a46:=Tryz.isAgg121
 z46:=Tryz.sizeOf121
 v46:=Tryz.zeroValue121
 t51:=Tryz.underlying185
 a51:=Tryz.isAgg185
 z51:=Tryz.sizeOf185
 v51:=Tryz.zeroValue185
 t105:=Tryz.underlying296
 a105:=Tryz.isAgg296
 z105:=Tryz.sizeOf296
 v105:=Tryz.zeroValue296
 t119:=Tryz.underlying279
 a119:=Tryz.isAgg279
 z119:=Tryz.sizeOf279
 t138:=Tryz.underlying281
 a138:=Tryz.isAgg281
 z138:=Tryz.sizeOf281
 v138:=Tryz.zeroValue281
 t139:=Tryz.underlying282
 a139:=Tryz.isAgg282
 z139:=Tryz.sizeOf282
 v139:=Tryz.zeroValue282
 t146:=Tryz.underlying291
 a146:=Tryz.isAgg291
 z146:=Tryz.sizeOf291
 v146:=Tryz.zeroValue291
 g1:=by kernel_rfl
 g3:=by kernel_rfl
 g4:=by kernel_rfl}
open Go.RowKit Go.Lib in
theorem Tryz.strings_Split (s sep:ByteArray) (m:Int) (w:World) (hs:s.size<4294967281) (hm:w.cell? ⟨5,0,none⟩=some (.int .i64 m)) (h1:1≤sep.size):
  Calls Tryz.prog 221 #[.string s,.string sep] w fun e w'=>
   e= .returned (.slice (some ⟨w.heap.size,0,none⟩) (Lib.countB s sep+1) (Lib.countB s sep+1))∧w'=w.alloc (.cells ((Lib.splitB sep 0 (Lib.countB s sep) s).map Value.string).toArray 9):=Any.strings_Split Tryz.lays146 (by kernel_rfl) s sep m w hs hm h1
def Tryz.lays194_ren:Go.Shelf.Ren:=⟨fun|194=>31|n=>n,fun|31=>30|9=>9|3=>3|4=>4|0=>0|n=>n,fun|n=>n⟩
theorem Tryz.lays194:Go.Proofs.Lays.n194 Tryz.prog Tryz.lays194_ren:={
 mixed:=by kernel_rfl
 f194:=Tryz.func31.trans (congrArg some (by kernel_rfl))
 t0:=Tryz.underlying0
 a0:=Tryz.isAgg0
 z0:=Tryz.sizeOf0
 v0:=Tryz.zeroValue0
 t3:=Tryz.underlying3
 a3:=Tryz.isAgg3
 z3:=Tryz.sizeOf3
 v3:=Tryz.zeroValue3
 t4:=Tryz.underlying4
 a4:=Tryz.isAgg4
 z4:=Tryz.sizeOf4
 v4:=Tryz.zeroValue4
 t9:=Tryz.underlying9
 a9:=Tryz.isAgg9
 z9:=Tryz.sizeOf9
 v9:=Tryz.zeroValue9
 t31:=Tryz.underlying30
 a31:=Tryz.isAgg30
 z31:=Tryz.sizeOf30
 v31:=Tryz.zeroValue30}
open Go.RowKit Go.Lib Go.Sort in
theorem Tryz.slices_Compact_string (blk off cap:Nat) (zs:List (List UInt8)) (w:World) (hH:Holds encStr w blk off zs.toArray) (hsz:zs.length≤9223372036854775807) (hcap:zs.length≤cap):
  Calls Tryz.prog 31 #[.slice (some ⟨blk,off,none⟩) zs.length cap] w fun e w'=>e= .returned (.slice (some ⟨blk,off,none⟩) (Lib.compact zs).length cap)∧ ∃q,w'=putRow encStr (Sort.ahead w q) blk off (Lib.compact zs++List.replicate (zs.length - (Lib.compact zs).length) []).toArray:=Any.slices_Compact_string Tryz.lays194 blk off cap zs w hH hsz hcap
open Go.RowKit Go.Lib Go.Sort in
theorem Tryz.slices_Compact_string_empty (a:Option Addr) (cap:Nat) (w:World):
  Calls Tryz.prog 31 #[.slice a 0 cap] w fun e w'=>e= .returned (.slice a 0 cap)∧w'=w:=Any.slices_Compact_string_empty Tryz.lays194 a cap w
def Tryz.laysNm224_ren:Go.Shelf.Ren:=⟨fun|24=>66|n=>n,fun|24=>30|9=>9|3=>3|4=>4|0=>0|n=>n,fun|n=>n⟩
theorem Tryz.laysNm224:Go.Proofs.Lays2.n24 Tryz.prog Tryz.laysNm224_ren:={
 mixed:=by kernel_rfl
 f24:=Tryz.func66.trans (congrArg some (by kernel_rfl))
 t0:=Tryz.underlying0
 a0:=Tryz.isAgg0
 z0:=Tryz.sizeOf0
 v0:=Tryz.zeroValue0
 t3:=Tryz.underlying3
 a3:=Tryz.isAgg3
 z3:=Tryz.sizeOf3
 v3:=Tryz.zeroValue3
 t4:=Tryz.underlying4
 a4:=Tryz.isAgg4
 z4:=Tryz.sizeOf4
 v4:=Tryz.zeroValue4
 t9:=Tryz.underlying9
 a9:=Tryz.isAgg9
 z9:=Tryz.sizeOf9
 v9:=Tryz.zeroValue9
 t24:=Tryz.underlying30
 a24:=Tryz.isAgg30
 z24:=Tryz.sizeOf30
 v24:=Tryz.zeroValue30
 i9:=by kernel_rfl}
open Go.RowKit Go.Lib Go.Sort in
theorem Tryz.slices_Delete_string (blk off cap i j:Nat) (zs:List (List UInt8)) (w:World) (hH:Holds encStr w blk off zs.toArray) (hcap:zs.length≤cap) (hm:cap≤9223372036854775807) (hij:i≤j) (hj:j≤zs.length):
  Calls Tryz.prog 66 #[.slice (some ⟨blk,off,none⟩) zs.length cap,.int .i64 i,.int .i64 j] w fun e w'=>e= .returned (.slice (some ⟨blk,off,none⟩) (zs.length - (j - i)) cap)∧ ∃q,w'=putRow encStr (Sort.ahead w q) blk off (zs.take i++zs.drop j++List.replicate (j - i) []).toArray:=Any.slices_Delete_string Tryz.laysNm224 blk off cap i j zs w hH hcap hm hij hj
open Go.RowKit Go.Sort in
theorem Tryz.slices_Sort_string_none (p:Option Addr) (cap:Nat) (w:World):
  Calls Tryz.prog 30 #[.slice p 0 cap] w fun e w'=>e= .returned (.tuple #[])∧w'=w:=Any.slices_Sort_string_none Tryz.lays190 p cap w
def Tryz.lays196_ren:Go.Shelf.Ren:=⟨fun|196=>200|259=>223|n=>n,fun|9=>9|4=>4|3=>3|5=>5|12=>12|119=>279|0=>0|46=>121|139=>282|138=>281|53=>187|n=>n,fun|3=>3|4=>4|n=>n⟩
theorem Tryz.lays196:Go.Proofs.Lays.n196 Tryz.prog Tryz.lays196_ren:={
 mixed:=by kernel_rfl
 f196:=Tryz.func200.trans (congrArg some (by kernel_rfl))
 f259:=Tryz.func223.trans (congrArg some (by kernel_rfl))
 t0:=Tryz.underlying0
 a0:=Tryz.isAgg0
 z0:=Tryz.sizeOf0
 v0:=Tryz.zeroValue0
 t3:=Tryz.underlying3
 a3:=Tryz.isAgg3
 z3:=Tryz.sizeOf3
 v3:=Tryz.zeroValue3
 t4:=Tryz.underlying4
 a4:=Tryz.isAgg4
 z4:=Tryz.sizeOf4
 v4:=Tryz.zeroValue4
 t5:=Tryz.underlying5
 a5:=Tryz.isAgg5
 z5:=Tryz.sizeOf5
 v5:=Tryz.zeroValue5
 t9:=Tryz.underlying9
 a9:=Tryz.isAgg9
 z9:=Tryz.sizeOf9
 v9:=Tryz.zeroValue9
 t12:=Tryz.underlying12
 a12:=Tryz.isAgg12
 z12:=Tryz.sizeOf12
 v12:=Tryz.zeroValue12
 t46:=Tryz.underlying121
 a46:=Tryz.isAgg121
 z46:=Tryz.sizeOf121
 v46:=Tryz.zeroValue121
 t53:=Tryz.underlying187
 a53:=Tryz.isAgg187
 z53:=Tryz.sizeOf187
 v53:=Tryz.zeroValue187
 t119:=Tryz.underlying279
 a119:=Tryz.isAgg279
 z119:=Tryz.sizeOf279
 t138:=Tryz.underlying281
 a138:=Tryz.isAgg281
 z138:=Tryz.sizeOf281
 v138:=Tryz.zeroValue281
 t139:=Tryz.underlying282
 a139:=Tryz.isAgg282
 z139:=Tryz.sizeOf282
 v139:=Tryz.zeroValue282
 g3:=by kernel_rfl
 g4:=by kernel_rfl}
def Tryz.sorted59_ren:Go.Shelf.Ren:=⟨fun|6=>59|8=>103|9=>30|11=>139|13=>58|12=>57|23=>101|24=>102|14=>92|15=>93|16=>94|17=>95|18=>96|19=>97|20=>98|21=>99|22=>100|25=>133|26=>134|27=>135|28=>136|29=>137|30=>138|31=>179|n=>n,fun|26=>9|28=>124|24=>30|0=>0|3=>3|37=>121|48=>185|50=>187|4=>4|40=>177|39=>176|45=>182|5=>5|9=>9|51=>220|55=>224|57=>249|58=>250|33=>130|n=>n,fun|n=>n⟩
theorem Tryz.sorted59:Go.Proofs.SlLaysZ.n6 Tryz.prog Tryz.sorted59_ren:={
 mixed:=by kernel_rfl
 f6:=⟨Tryz.f59.name,by decide,Tryz.func59.trans (congrArg some (by kernel_rfl))⟩
 f8:=⟨Tryz.f103.name,by decide,Tryz.func103.trans (congrArg some (by kernel_rfl))⟩
 f11:=⟨Tryz.f139.name,by decide,Tryz.func139.trans (congrArg some (by kernel_rfl))⟩
 t0:=Tryz.underlying0
 a0:=Tryz.isAgg0
 z0:=Tryz.sizeOf0
 v0:=Tryz.zeroValue0
 t24:=Tryz.underlying30
 a24:=Tryz.isAgg30
 z24:=Tryz.sizeOf30
 v24:=Tryz.zeroValue30
 t26:=Tryz.underlying9
 a26:=Tryz.isAgg9
 z26:=Tryz.sizeOf9
 v26:=Tryz.zeroValue9
 t28:=Tryz.underlying124
 a28:=Tryz.isAgg124
 z28:=Tryz.sizeOf124
 v28:=Tryz.zeroValue124
 i26:=by kernel_rfl}
end Go.Proofs
end
noncomputable section
set_option maxRecDepth 100000
namespace Go.Fl
open Go Go.Proofs Go.RowKit Go.Maps Go.Sort Go.Shelf
variable {P:Program} {ρ:Ren}
def y9i (F:Fence) (n:Nat) (P:Program) (g:Nat) (lb:Array Value) (ss:List (List UInt8)) (w:World):Prop:=
 ∀(l:Nat) (J:List (List UInt8)→World→Prop) (W:World),Below w.heap.size w W→AbidesFrom W.heap.size J→(∀pre W1,J pre W1→Below w.heap.size w W1)→
  (∀pre x W1,J pre W1→pre.length<ss.length→YieldAt F (n - 1) P l #[encStr x] W1 fun e W'=>e= .returned (.bool true)∧J (pre++[x]) W'∧KeepsWalks W1 W')→
  J [] W→CallsIn F n P g (#[.func (.yield l) #[] #[]]++lb) W fun e W'=>(∃v,e= .returned v)∧J ss W'
theorem w9s {W:World} {base j:Nat} {e:TypeId} {v:Value} {k:Nat} {xs:List Value} {o:Obj} (h:W.ownsRow base e 1 v k xs) (hj:W.heap[j]? =some o) (hno: ∀cur,o≠ .cells cur e (0,0)) (o':Obj):(W.putObj j o').ownsRow base e 1 v k xs:=
 h.kept (grownBy_putObj_a W j o') (ownsRow_ne_a h hj hno)
set_option maxHeartbeats 2000000 in
theorem w4e (L:SlLaysZ.n11 P ρ) (F:Fence) (n:Nat) (hf:F.fn (ρ.f 11)) (hro:F.round=none) (hn:2≤n) (g:Nat) (lb:Array Value) (hg:F.fn g) (eg: ∀args w,(callFunc g args).run P w= .ok (.enter g args) w)
  (ss:List (List UInt8)) (hN:ss.length≤maxLen) (hNb:ss.length*16≤140737488355328) (w:World) (hseq:y9i F (n - 1) P g lb ss w):
  CallsIn F n P (ρ.f 11) #[.slice none 0 0,.func (.func g) #[] lb] w fun e w'=> ∃v,e= .returned v∧w'.ownsRow w.heap.size (ρ.t 26) 1 v ss.length (ss.map encStr)∧Below w.heap.size w w':=by
 have mixed:=L.mixed;have t0:=L.t0;have a0:=L.a0;have z0:=L.z0;have v0:=L.v0;have t24:=L.t24;have a24:=L.a24;have z24:=L.z24;have v24:=L.v24;have t26:=L.t26;have a26:=L.a26;have z26:=L.z26;have v26:=L.v26
 have u0:=run_underlying L.t0;have u24:=run_underlying L.t24;have u26:=run_underlying L.t26
 have apart:ρ.t 24≠ρ.t 26:=fun e=>by have h:=L.t24;rw [e,L.t26] at h;cases h
 obtain ⟨_,_,body⟩:=L.f11
 refine callsIn_of_wp_marks body rfl hf ?_ hro
 simp only [SlBodyZ.n11_ntmps ρ,List.size_toArray,List.length_cons,List.length_nil,Nat.reduceAdd,Nat.reduceSub,Array.replicate_succ,Array.replicate_zero,List.push_toArray,List.append_toArray,List.nil_append,List.cons_append]
 gi_wp2
 refine wpIn_rangeFunc fun fn hfn=> ?_
 rw [hro]
 generalize hA:w.alloc (.cells #[.slice none 0 0] (ρ.t 24))=A
 have sA:A.heap.size=w.heap.size+1:=by rw [←hA];simp
 have bA:Below w.heap.size w A:=by rw [←hA];exact (Below.refl _ w).alloc (Nat.le_refl _) _
 have xA:A.heap[w.heap.size]? =some (.cells #[.slice none 0 0] (ρ.t 24) (0,0)):=by rw [←hA];exact World.alloc_heap_new w _
 generalize hrec:AnyZ.apRec ρ fn (.func (.func g) #[] lb) w.heap.size A.heap.size .ready none=rec
 generalize hB:(A.alloc (.deferred (some []))).alloc (.loop rec)=B
 have oldB: ∀k,k<A.heap.size→B.heap[k]? =A.heap[k]? :=fun k hk=>by rw [←hB];exact (Below.heap_alloc _ _ k (by simp;omega)).trans (Below.heap_alloc _ _ k hk)
 have bB:Below w.heap.size w B:=by rw [←hB];exact (bA.alloc bA.size _).alloc (by have:=bA.size;simp;omega) _
 have dB:B.heap[A.heap.size]? =some (.deferred (some [])):=by rw [←hB];exact (Below.heap_alloc _ _ _ (by simp)).trans (World.alloc_heap_new A _)
 have lB:B.heap[A.heap.size+1]? =some (.loop rec):=by rw [←hB];have:=World.alloc_heap_new (A.alloc (.deferred (some []))) (.loop rec);rwa [World.size_alloc] at this
 have start:AnyZ.ApAt ρ w fn (.func (.func g) #[] lb) w.heap.size (A.heap.size+1) A.heap.size [] B:=
  ⟨⟨_,(oldB _ (by omega)).trans xA,⟨rfl,.inl ⟨rfl,rfl⟩⟩,by simp⟩,by rw [hrec];exact lB,dB,bB⟩
 refine ⟨A.heap.size+1,[{target:= .collected A.heap.size,args:= #[]}],B,{target:= .fn (.func g) lb,args:= #[.func (.yield (A.heap.size+1)) #[] #[]]},B,g,#[.func (.yield (A.heap.size+1)) #[] #[]]++lb,B,?_,?_,?_,?_,fun _=>(by omega),?_⟩
 ·rw [←hB,←hrec];exact run_enterLoop_outer _ _ _ _ _
 ·simp [resolve,go_sem]
 ·intro f' h';simp [Target.leads] at h';exact h'▸hg
 ·simp [invoke,go_sem,eg]
 refine (hseq _ (AnyZ.ApAt ρ w fn (.func (.func g) #[] lb) w.heap.size (A.heap.size+1) A.heap.size) B bB (AnyZ.ap_abides ρ _ _ _ _ _ _ _ bB.size) (fun _ _ h=>h.below)
  (fun pre x W h hl=>AnyZ.apYield {L with} F _ w fn hfn _ _ _ _ (by omega) (by omega) (by omega) (Nat.le_refl _) (by omega) ss.length hN hNb pre x W h hl) start).mono ?_
 rintro e C ⟨⟨_,rfl⟩,hC⟩
 obtain ⟨v,hv,hrow,_⟩:=hC.box
 have hend:=run_endLoop (P:=P) hC.L (by simp [AnyZ.apRec])
 generalize hD:C.putObj (A.heap.size+1) (.loop {AnyZ.apRec ρ fn (.func (.func g) #[] lb) w.heap.size A.heap.size .ready none with state:= .exhausted})=D at hend
 have rowD:D.ownsRow w.heap.size (ρ.t 26) 1 v ss.length (ss.map encStr):=by rw [←hD];exact w9s hrow hC.L (fun _ h=>by cases h) _
 have boxD:D.heap[w.heap.size]? =some (.cells #[v] (ρ.t 24) (0,0)):=by rw [←hD];exact (World.putObj_heap_other (by omega)).trans hv
 have defD:D.heap[A.heap.size]? =some (.deferred (some [])):=by rw [←hD];exact (World.putObj_heap_other (by omega)).trans hC.K
 have belD:Below w.heap.size w D:=by rw [←hD];exact hC.below.grown (grownBy_putObj_a _ _ _) hC.below.size (fun k h=>by cases h;omega)
 obtain ⟨cellD,markD⟩:=cell_of_box_a boxD
 clear hD
 refine ⟨none,D,hend,?_⟩
 gi_wp2
 rw [←sA]
 refine ⟨by simp,.inl ⟨_,_,rfl,run_takeDeferred defD,?_⟩⟩
 exact ⟨_,results_tmp rfl _ _ _,v,rfl,w9s rowD defD (fun _ h=>by cases h) _,belD.grown (grownBy_putObj_a _ _ _) belD.size (fun k h=>by cases h;omega)⟩
end Go.Fl
end
noncomputable section
set_option maxRecDepth 100000
namespace Go.Proofs.YthpeboomdlgfaaaGreatDoor
open Go Go.Proofs Go.RowKit Go.Fl Go.Maps Go.Sort Go.Shelf
attribute [local go_sem] Oper.semAt_some
set_option maxHeartbeats 2000000 in
theorem v93 (n:Nat) (hn:1≤n) (w W:World) (l Bs b off cap:Nat) (zs:List (List UInt8)) (hreach:zs.length≤140737488355328) (hBs:Bs<w.heap.size) (hb:b<w.heap.size) (J:List (List UInt8)→World→Prop)
  (hJ: ∀pre W1,J pre W1→Below w.heap.size w W1) (hc:w.cell? ⟨Bs,0,none⟩=some (.slice (some ⟨b,off,none⟩) zs.length cap)) (hcs: ∀j,j<zs.length→w.cell? ⟨b,off+j,none⟩=some (encStr (zs[j]?.getD [])))
  (hY: ∀pre x W1,J pre W1→pre.length<zs.length→YieldAt Fence.wide (n - 1) Tryz.prog l #[encStr x] W1 fun e W'=>e= .returned (.bool true)∧J (pre++[x]) W'∧KeepsWalks W1 W') (h0:J [] W):
  CallsIn Fence.wide n Tryz.prog 104 #[.func (.yield l) #[] #[],.pointer (some ⟨Bs,0,none⟩)] W fun e W'=>(∃v,e= .returned v)∧J zs W':=by
 have hc0:=((hJ _ _ h0).cell (p:=⟨Bs,0,none⟩) hBs).trans hc
 refine callsIn_of_wp Tryz.func104 rfl trivial ?_ rfl
 simp only [Tryz.ntmps104,List.size_toArray,List.length_cons,List.length_nil,Nat.reduceAdd,Nat.reduceSub,Array.replicate_succ,Array.replicate_zero,List.push_toArray,List.append_toArray,List.nil_append,List.cons_append]
 gi_wp2
 gi_loopw [7] (fun i wr=> ∃k:Nat,k≤zs.length∧i= .int .i64 k∧J (zs.take k) wr) (fun i _=>zs.length - (intOf i).toNat)
 case atStart=>exact ⟨0,Nat.zero_le _,rfl,h0⟩
 case round=>
  obtain ⟨k,hk,rfl,hJk⟩:=hrel
  by_cases hlt:k<zs.length
  ·have hck:=((hJ _ _ hJk).cell (p:=⟨b,off+k,none⟩) hb).trans (hcs k hlt)
   obtain ⟨fn,tmps,assign,body,hy,hR⟩:=hY _ zs[k] wr hJk (by rw [List.length_take];omega)
   gi_wp2
   refine hR.mono ?_
   rintro e W3 ⟨rfl,hJ3,_⟩
   gi_wp2
   go_roundw
   case rel=>exact ⟨k+1,by omega,by simp,by rw [List.take_succ_eq_append_getElem hlt];exact hJ3⟩
   case measure=>simp [intOf];omega
  ·obtain rfl:k=zs.length:=by omega
   rw [List.take_length] at hJk
   gi_wp2
   go_end0
   exact ⟨⟨_,rfl⟩,hJk⟩
set_option maxHeartbeats 2000000 in
theorem v94 (n:Nat) (w W:World) (l Bs cap:Nat) (a:Option Addr) (hBs:Bs<w.heap.size) (J:List (List UInt8)→World→Prop) (hJ: ∀pre W1,J pre W1→Below w.heap.size w W1) (hc:w.cell? ⟨Bs,0,none⟩=some (.slice a 0 cap)) (h0:J [] W):
  CallsIn Fence.wide n Tryz.prog 104 #[.func (.yield l) #[] #[],.pointer (some ⟨Bs,0,none⟩)] W fun e W'=>(∃v,e= .returned v)∧J [] W':=by
 have hc0:=((hJ _ _ h0).cell (p:=⟨Bs,0,none⟩) hBs).trans hc
 refine callsIn_of_wp Tryz.func104 rfl trivial ?_ rfl
 simp only [Tryz.ntmps104,List.size_toArray,List.length_cons,List.length_nil,Nat.reduceAdd,Nat.reduceSub,Array.replicate_succ,Array.replicate_zero,List.push_toArray,List.append_toArray,List.nil_append,List.cons_append]
 gi_wp2
 gi_loopw [7] (fun i wr=>i= .int .i64 0∧J [] wr) (fun _ _=>0)
 case atStart=>exact ⟨rfl,h0⟩
 case round=>
  obtain ⟨rfl,hJs⟩:=hrel
  gi_wp2
  go_end0
  exact ⟨⟨_,rfl⟩,hJs⟩
theorem u85 {σ:Hv} {w:World} (Bs:Nat) (v:Value) (l:List ByteArray) (hV:View σ w) (hB:σ Bs=some (.cells #[v] 30 (0,0))) (hr:RSl 1 (REnc q0g) σ v l) (hs:Sml l.length):
  Calls Tryz.prog 139 #[.slice none 0 0,.func (.func 104) #[] #[.pointer (some ⟨Bs,0,none⟩)]] w fun e w1=> ∃v1,e= .returned v1∧Grow [] σ w σ w1∧((vec v1 9 1 l.length (l.flatMap q0g)).ok w1∧ ∀k,(vec v1 9 1 l.length (l.flatMap q0g)).foot=some k→w.heap.size≤k∧σ k=none):=by
 have hBw:=hV _ _ hB
 have hBl:=lt_of_block hBw
 have hBc:w.cell? ⟨Bs,0,none⟩=some v:=by simp [World.cell?,hBw]
 have hlen:(l.map (·.data.toList)).length=l.length:=List.length_map _
 have hgive:y9i Fence.wide 2 Tryz.prog 104 #[.pointer (some ⟨Bs,0,none⟩)] (l.map (·.data.toList)) w:=by
  intro lp J W _ _ hJB hY h0
  obtain ⟨a,cap,rfl,h1,h2,hel⟩:=hr
  cases hl0:l with
  |nil=>
   subst hl0
   exact v94 2 w W lp Bs cap a hBl J hJB hBc h0
  |cons x l'=>
   obtain ⟨ad,cs,rfl,_,hrow0,hcs0⟩:=hel 0 x (by rw [hl0];rfl)
   have cell0:=(hrow0.row hV) 0 _ (by rw [hcs0];rfl)
   obtain ⟨ab,ao,asp⟩:=ad
   have hsp:asp=none:=by
    cases asp with
    |none=>rfl
    |some s=>
     have:=hrow0 0 (.string x) (by rw [hcs0];rfl)
     simp [Hv.cell,Addr.add] at this
     split at this<;>simp at this
   subst hsp
   have hbl:ab<w.heap.size:=by
    have:=hrow0 0 (.string x) (by rw [hcs0];rfl)
    simp only [q39] at this
    unfold Hv.cell at this
    simp only at this
    cases hq:σ ab with
    |none=>rw [hq] at this;simp at this
    |some o=>exact lt_of_block (hV _ _ hq)
   rw [←hl0]
   have hcome:=v93 2 (by omega) w W lp Bs ab ao cap (l.map (·.data.toList)) (by rw [hlen];exact h2) hBl hbl J hJB (by rw [hlen];exact hBc) (fun j hj=>by
    rw [hlen] at hj
    obtain ⟨y,hy⟩:=getq hj
    obtain ⟨ad',cs',had,_,hrow,hcs⟩:=hel j y hy
    cases had
    have hc:=(hrow.row hV) 0 (.string y) (by rw [hcs];rfl)
    rw [q7y,q39] at hc
    rw [List.getElem?_map,hy]
    simpa [encStr] using hc) hY h0
   exact hcome
 refine (callsIn_wide (n:=3)).1 ((w4e (ρ:=Tryz.sorted59_ren) {Tryz.sorted59 with} Fence.wide 3 trivial rfl (by omega) 104 _ trivial (enters_of Tryz.func104 (by kernel_rfl) rfl) (l.map (·.data.toList)) (by rw [hlen];exact (q95 hs (show 16≤32768 by omega)).2) (by rw [hlen];exact (q95 hs (by omega)).1) w hgive).mono ?_)
 rintro e w1 ⟨v1,rfl,hown,hbel⟩
 rw [hlen] at hown
 have hfl:(l.map (·.data.toList)).map encStr=l.flatMap q0g:=(q5w l).symm
 rw [hfl] at hown
 have hsame: ∀b,b<w.heap.size→w1.heap[b]? =w.heap[b]? :=fun b hb=>hbel.block b hb
 refine ⟨v1,rfl,⟨⟨hbel.os,hbel.tape,hbel.output,hbel.size,fun k hk _=>hbel.block k hk⟩,fun b o hb=>(hbel.block b (lt_of_block (hV b o hb))).trans (hV b o hb),.refl _,fun _ _ _=>rfl⟩,?_,?_⟩
 ·exact ⟨hown.1,hown.2.imp id fun ⟨g,cap,cur,e1,_,e3⟩=>⟨g,cap,cur,e1,Nat.zero_le _,e3⟩⟩
 ·intro k hk
  have hge:w.heap.size≤k:=(hown.lt k hk).1
  refine ⟨hge,?_⟩
  cases hq:σ k with
  |none=>rfl
  |some o=>have:=lt_of_block (hV k o hq);omega
end Go.Proofs.YthpeboomdlgfaaaGreatDoor
end
