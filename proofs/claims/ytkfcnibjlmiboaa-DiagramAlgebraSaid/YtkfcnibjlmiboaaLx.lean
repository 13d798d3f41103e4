/- The contracts of the stores, over the program. Conditions: none. -/
import Derived.Test.YtkfcnibjlmiboaaLwC
import Derived.Test.YtkfcnibjlmiboaaFxView
import Derived.KernelRfl
import Derived.Conc.MuLone
open Go Go.RowKit Go.Fl Go.Fl.Lk Go.Fx
namespace Go.Dg5
theorem h_E0 : Ev3 E0 Go.Proofs.Try.prog D := ⟨ok_E0, rfl, rfl⟩
theorem n_rNew : Meets Go.Proofs.Try.prog D 16 c_rNew := Eq.mp (by kernel_rfl : Meets E0.P E0.D 16 c_rNew = Meets Go.Proofs.Try.prog D 16 c_rNew) m_rNew
theorem n_rLeaf : Meets Go.Proofs.Try.prog D 18 c_rLeaf := Eq.mp (by kernel_rfl : Meets E_rNew.P E_rNew.D 18 c_rLeaf = Meets Go.Proofs.Try.prog D 18 c_rLeaf) m_rLeaf
theorem n_ris : Meets Go.Proofs.Try.prog D 41 c_ris := Eq.mp (by kernel_rfl : Meets E_rLeaf.P E_rLeaf.D 41 c_ris = Meets Go.Proofs.Try.prog D 41 c_ris) m_ris
theorem n_rtop : Meets Go.Proofs.Try.prog D 42 c_rtop := Eq.mp (by kernel_rfl : Meets E_ris.P E_ris.D 42 c_rtop = Meets Go.Proofs.Try.prog D 42 c_rtop) m_rtop
theorem n_rNode : Meets Go.Proofs.Try.prog D 19 c_rNode := Eq.mp (by kernel_rfl : Meets E_rtop.P E_rtop.D 19 c_rNode = Meets Go.Proofs.Try.prog D 19 c_rNode) m_rNode
theorem n_rsides : Meets Go.Proofs.Try.prog D 57 c_rsides := Eq.mp (by kernel_rfl : Meets E_rNode.P E_rNode.D 57 c_rsides = Meets Go.Proofs.Try.prog D 57 c_rsides) m_rsides
theorem n_rreach : Meets Go.Proofs.Try.prog D 47 c_rreach := Eq.mp (by kernel_rfl : Meets E_rsides.P E_rsides.D 47 c_rreach = Meets Go.Proofs.Try.prog D 47 c_rreach) m_rreach
theorem n_rLeaves : Meets Go.Proofs.Try.prog D 28 c_rLeaves := Eq.mp (by kernel_rfl : Meets E_rreach.P E_rreach.D 28 c_rLeaves = Meets Go.Proofs.Try.prog D 28 c_rLeaves) m_rLeaves
theorem n_rcond : Meets Go.Proofs.Try.prog D 44 c_rcond := Eq.mp (by kernel_rfl : Meets E_rLeaves.P E_rLeaves.D 44 c_rcond = Meets Go.Proofs.Try.prog D 44 c_rcond) m_rcond
theorem n_rSize : Meets Go.Proofs.Try.prog D 32 c_rSize := Eq.mp (by kernel_rfl : Meets E_rcond.P E_rcond.D 32 c_rSize = Meets Go.Proofs.Try.prog D 32 c_rSize) m_rSize
theorem n_rRun : Meets Go.Proofs.Try.prog D 52 c_rRun := Eq.mp (by kernel_rfl : Meets E_rSize.P E_rSize.D 52 c_rRun = Meets Go.Proofs.Try.prog D 52 c_rRun) m_rRun
theorem n_Same : Meets Go.Proofs.Try.prog D 29 c_Same := Eq.mp (by kernel_rfl : Meets E_rRun.P E_rRun.D 29 c_Same = Meets Go.Proofs.Try.prog D 29 c_Same) m_Same
theorem n_Mod : Meets Go.Proofs.Try.prog D 12 c_Mod := Eq.mp (by kernel_rfl : Meets E_Same.P E_Same.D 12 c_Mod = Meets Go.Proofs.Try.prog D 12 c_Mod) m_Mod
theorem n_dNew : Meets Go.Proofs.Try.prog D 36 c_dNew := Eq.mp (by kernel_rfl : Meets E_Mod.P E_Mod.D 36 c_dNew = Meets Go.Proofs.Try.prog D 36 c_dNew) m_dNew
theorem n_dLeft : Meets Go.Proofs.Try.prog D 38 c_dLeft := Eq.mp (by kernel_rfl : Meets E_dNew.P E_dNew.D 38 c_dLeft = Meets Go.Proofs.Try.prog D 38 c_dLeft) m_dLeft
theorem n_dNext : Meets Go.Proofs.Try.prog D 40 c_dNext := Eq.mp (by kernel_rfl : Meets E_dLeft.P E_dLeft.D 40 c_dNext = Meets Go.Proofs.Try.prog D 40 c_dNext) m_dNext
theorem n_dWide : Meets Go.Proofs.Try.prog D 39 c_dWide := Eq.mp (by kernel_rfl : Meets E_dNext.P E_dNext.D 39 c_dWide = Meets Go.Proofs.Try.prog D 39 c_dWide) m_dWide
theorem n_holds : Meets Go.Proofs.Try.prog D 51 c_holds := Eq.mp (by kernel_rfl : Meets E_dWide.P E_dWide.D 51 c_holds = Meets Go.Proofs.Try.prog D 51 c_holds) m_holds
theorem n_rchoose : Meets Go.Proofs.Try.prog D 46 c_rchoose := Eq.mp (by kernel_rfl : Meets E_holds.P E_holds.D 46 c_rchoose = Meets Go.Proofs.Try.prog D 46 c_rchoose) m_rchoose
theorem n_rChoose : Meets Go.Proofs.Try.prog D 27 c_rChoose := Eq.mp (by kernel_rfl : Meets E_rchoose.P E_rchoose.D 27 c_rChoose = Meets Go.Proofs.Try.prog D 27 c_rChoose) m_rChoose
theorem n_rAnd : Meets Go.Proofs.Try.prog D 23 c_rAnd := Eq.mp (by kernel_rfl : Meets E_rChoose.P E_rChoose.D 23 c_rAnd = Meets Go.Proofs.Try.prog D 23 c_rAnd) m_rAnd
theorem n_rOr : Meets Go.Proofs.Try.prog D 25 c_rOr := Eq.mp (by kernel_rfl : Meets E_rAnd.P E_rAnd.D 25 c_rOr = Meets Go.Proofs.Try.prog D 25 c_rOr) m_rOr
theorem n_rNot : Meets Go.Proofs.Try.prog D 21 c_rNot := Eq.mp (by kernel_rfl : Meets E_rOr.P E_rOr.D 21 c_rNot = Meets Go.Proofs.Try.prog D 21 c_rNot) m_rNot
theorem n_pNew : Meets Go.Proofs.Try.prog D 10 c_pNew := Eq.mp (by kernel_rfl : Meets E0.P E0.D 10 c_pNew = Meets Go.Proofs.Try.prog D 10 c_pNew) m_pNew
theorem n_pLeaf : Meets Go.Proofs.Try.prog D 17 c_pLeaf := Eq.mp (by kernel_rfl : Meets E_pNew.P E_pNew.D 17 c_pLeaf = Meets Go.Proofs.Try.prog D 17 c_pLeaf) m_pLeaf
theorem n_pvalid : Meets Go.Proofs.Try.prog D 34 c_pvalid := Eq.mp (by kernel_rfl : Meets E_pLeaf.P E_pLeaf.D 34 c_pvalid = Meets Go.Proofs.Try.prog D 34 c_pvalid) m_pvalid
theorem n_ptest : Meets Go.Proofs.Try.prog D 35 c_ptest := Eq.mp (by kernel_rfl : Meets E_pvalid.P E_pvalid.D 35 c_ptest = Meets Go.Proofs.Try.prog D 35 c_ptest) m_ptest
theorem n_pNode : Meets Go.Proofs.Try.prog D 11 c_pNode := Eq.mp (by kernel_rfl : Meets E_ptest.P E_ptest.D 11 c_pNode = Meets Go.Proofs.Try.prog D 11 c_pNode) m_pNode
theorem n_leaf : Meets Go.Proofs.Try.prog D 55 c_leaf := Eq.mp (by kernel_rfl : Meets E_pNode.P E_pNode.D 55 c_leaf = Meets Go.Proofs.Try.prog D 55 c_leaf) m_leaf
theorem n_pcof : Meets Go.Proofs.Try.prog D 56 c_pcof := Eq.mp (by kernel_rfl : Meets E_leaf.P E_leaf.D 56 c_pcof = Meets Go.Proofs.Try.prog D 56 c_pcof) m_pcof
theorem n_pRun : Meets Go.Proofs.Try.prog D 14 c_pRun := Eq.mp (by kernel_rfl : Meets E_pcof.P E_pcof.D 14 c_pRun = Meets Go.Proofs.Try.prog D 14 c_pRun) m_pRun
theorem n_pAt : Meets Go.Proofs.Try.prog D 33 c_pAt := Eq.mp (by kernel_rfl : Meets E_pRun.P E_pRun.D 33 c_pAt = Meets Go.Proofs.Try.prog D 33 c_pAt) m_pAt
theorem n_pFull : Meets Go.Proofs.Try.prog D 13 c_pFull := Eq.mp (by kernel_rfl : Meets E_pAt.P E_pAt.D 13 c_pFull = Meets Go.Proofs.Try.prog D 13 c_pFull) m_pFull
theorem n_preach : Meets Go.Proofs.Try.prog D 49 c_preach := Eq.mp (by kernel_rfl : Meets E_pFull.P E_pFull.D 49 c_preach = Meets Go.Proofs.Try.prog D 49 c_preach) m_preach
theorem n_pSize : Meets Go.Proofs.Try.prog D 31 c_pSize := Eq.mp (by kernel_rfl : Meets E_preach.P E_preach.D 31 c_pSize = Meets Go.Proofs.Try.prog D 31 c_pSize) m_pSize
theorem n_pLeaves : Meets Go.Proofs.Try.prog D 30 c_pLeaves := Eq.mp (by kernel_rfl : Meets E_pSize.P E_pSize.D 30 c_pLeaves = Meets Go.Proofs.Try.prog D 30 c_pLeaves) m_pLeaves
theorem n_pcond : Meets Go.Proofs.Try.prog D 43 c_pcond := Eq.mp (by kernel_rfl : Meets E_pLeaves.P E_pLeaves.D 43 c_pcond = Meets Go.Proofs.Try.prog D 43 c_pcond) m_pcond
theorem n_pchoose : Meets Go.Proofs.Try.prog D 45 c_pchoose := Eq.mp (by kernel_rfl : Meets E_pcond.P E_pcond.D 45 c_pchoose = Meets Go.Proofs.Try.prog D 45 c_pchoose) m_pchoose
theorem n_pChoose : Meets Go.Proofs.Try.prog D 26 c_pChoose := Eq.mp (by kernel_rfl : Meets E_pchoose.P E_pchoose.D 26 c_pChoose = Meets Go.Proofs.Try.prog D 26 c_pChoose) m_pChoose
theorem n_pAnd : Meets Go.Proofs.Try.prog D 22 c_pAnd := Eq.mp (by kernel_rfl : Meets E_pChoose.P E_pChoose.D 22 c_pAnd = Meets Go.Proofs.Try.prog D 22 c_pAnd) m_pAnd
theorem n_pOr : Meets Go.Proofs.Try.prog D 24 c_pOr := Eq.mp (by kernel_rfl : Meets E_pAnd.P E_pAnd.D 24 c_pOr = Meets Go.Proofs.Try.prog D 24 c_pOr) m_pOr
theorem n_pNot : Meets Go.Proofs.Try.prog D 20 c_pNot := Eq.mp (by kernel_rfl : Meets E_pOr.P E_pOr.D 20 c_pNot = Meets Go.Proofs.Try.prog D 20 c_pNot) m_pNot
theorem n_awake : Meets Go.Proofs.Try.prog D 9 c_awake := Eq.mp (by kernel_rfl : Meets X_pNot.P X_pNot.D 9 c_awake = Meets Go.Proofs.Try.prog D 9 c_awake) m_awake
theorem n_add : Meets Go.Proofs.Try.prog D 37 c_add := Eq.mp (by kernel_rfl : Meets E_awake.P E_awake.D 37 c_add = Meets Go.Proofs.Try.prog D 37 c_add) m_add
end Go.Dg5
