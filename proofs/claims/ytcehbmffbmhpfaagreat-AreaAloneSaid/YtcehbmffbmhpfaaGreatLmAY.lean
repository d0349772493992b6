/- What becomes of views. -/
import Derived.Test.YtcehbmffbmhpfaaGreatLmAH
import Derived.Test.YtcehbmffbmhpfaaGreatLmAW
set_option linter.unusedVariables false
set_option linter.unusedSimpArgs false
set_option linter.unnecessarySimpa false
set_option linter.all false
namespace Go.Proofs.YtcehbmffbmhpfaaGreat.K
open Go Go.Lm
set_option linter.unusedSimpArgs false
theorem sRcpV : Ev fun k => ∀ (v : View), SmV v → T k 82 [encV v] = ok (copyE v) := by
  refine sRCopy.step fun k h v hv => ?_
  have l1 := hv.op; have l2 := hv.mo; have l3 := hv.po; have l4 := hv.to
  rw [encV_eq, t82]; unfold R82
  simp [h v.tree hv.tr, copyE, app8 (n := v.op.length) (by omega), app8 (n := v.modal.length) (by omega), app16 (n := v.popups.length) (by omega), app8 (n := v.top.length) (by omega)]
/-- What is wrong with somebody who is to be opened. -/
def wrongV (v : View) (n : Int) (p : Bool) : Int := if isN v.tree n = false then 2 else if p = false then 3 else if n ∈ openL v then 9 else 0
theorem cDlg : Ev fun k => ∀ (t : List Nod) (n : Int), Sm t → callV H (T k) (.fn 123 []) [encT t, int n] = some (.bool (dlg t n)) := by
  refine sPdlg.mono fun k h t n ht => ?_
  have e : ∀ (T : Nat → List SVal → Option Res) (caps args : List SVal), callV H T (.fn 123 caps) args = (if shOks [.slc, .plain] (args ++ caps) = true then (T 123 (args ++ caps)).bind fun r => some r.r else none) := fun T caps args => by kernel_rfl
  rw [e, show [encT t, int n] ++ [] = [encT t, int n] from rfl, h t n ht]; rfl
theorem cPop : Ev fun k => ∀ (t : List Nod) (n : Int), Sm t → callV H (T k) (.fn 126 []) [encT t, int n] = some (.bool (pop t n)) := by
  refine sPpop.mono fun k h t n ht => ?_
  have e : ∀ (T : Nat → List SVal → Option Res) (caps args : List SVal), callV H T (.fn 126 caps) args = (if shOks [.slc, .plain] (args ++ caps) = true then (T 126 (args ++ caps)).bind fun r => some r.r else none) := fun T caps args => by kernel_rfl
  rw [e, show [encT t, int n] ++ [] = [encT t, int n] from rfl, h t n ht]; rfl
theorem sRdlgR : Ev fun k => ∀ (v : View) (n : Int) (m : Bool), SmV v → T k 51 [encV v, int n, .bool m] = ok (.tup [encV (dlgR v n m).1, int (dlgR v n m).2]) := by
  refine (sRchk.and (sRIs.and (sRdlg.and (sRIsOpen.and sRcpV)))).step fun k ⟨h1, h2, h3, h4, h5⟩ v n m hv => ?_
  have l1 := hv.op; have l2 := hv.mo; have l4 := hv.to
  rw [encV_eq, t51]; unfold R51
  by_cases hc : chkV v = 0
  · have ht : May v.tree := ⟨hv.tr, by unfold chkV at hc; split at hc; assumption; omega⟩
    by_cases hn : isN v.tree n = true
    · by_cases hd : dlg v.tree n = true
      · by_cases ho : n ∈ openL v
        · simp [h1 v hv, hc, h2, h3 v.tree n ht, h4 v n hv, hn, hd, ho, dlgR]
        · cases m
          · simp [h1 v hv, hc, h2, h3 v.tree n ht, h4 v n hv, hn, hd, ho, dlgR, h5 v hv, app8 (n := v.op.length + 1) (by omega)]
          · simp [h1 v hv, hc, h2, h3 v.tree n ht, h4 v n hv, hn, hd, ho, dlgR, h5 v hv, app8 (n := v.modal.length + 1) (by omega), app8 (n := v.top.length + 1) (by omega)]
      · simp [h1 v hv, hc, h2, h3 v.tree n ht, hn, hd, dlgR]
    · simp [h1 v hv, hc, h2, hn, dlgR]
  · simp [h1 v hv, hc, dlgR]
end Go.Proofs.YtcehbmffbmhpfaaGreat.K
