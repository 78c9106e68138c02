/-
  The statement PathRights, walked.
-/
import Derived.Test.YtoggdigclbcndaaDoorPath5
set_option linter.unusedVariables false
set_option linter.unusedSimpArgs false
namespace Go.Proofs.YtoggdigclbcndaaDoor.E
open Go Go.Proofs Go.RowKit
set_option maxRecDepth 100000
theorem right_facts {l : List UInt8} (h : rightB l = true) : numB l = -1 ∧ ∃ c r, l = c :: r ∧ c.toNat ≠ 47 ∧ (c.toNat = 46 → r ≠ []) := by
  have hall : (parts 47 l).all partB = true := by
    unfold rightB at h; simp only [Bool.and_eq_true] at h; exact h.1.1.1.1
  have hsuf : Lib.hasSuffix l gys = false := by
    unfold rightB at h; simp only [Bool.and_eq_true, Bool.not_eq_true'] at h; exact h.2
  refine ⟨by unfold numB; rw [hsuf]; rfl, ?_⟩
  cases l with
  | nil => exact absurd hall (by decide)
  | cons c r =>
    refine ⟨c, r, rfl, fun hc => ?_, fun hc hr => ?_⟩
    · obtain rfl : c = 47 := UInt8.toNat_inj.1 (by rw [hc]; rfl)
      rw [parts, if_pos rfl, List.all_cons] at hall
      exact absurd hall (by simp [partB])
    · obtain rfl : c = 46 := UInt8.toNat_inj.1 (by rw [hc]; rfl)
      subst hr
      exact absurd hall (by decide)
theorem pathRights_c (l : List UInt8) (h : Heap) (hV : Vars h) (hl : l.length ≤ 9223372036854775807) : Ret Tryd.prog 3 [S l] h (fun v h' => v = .bool true ∧ Ext h h') := by
  refine Ret.enter Tryd.func3 rfl Tryd.ntmps3 (by show 1 ≤ 39; decide) fun w0 => ?_
  refine run ?_
  refine L.c1 rfl (pawake_c h hV) ?_
  rintro _ h1 ⟨rfl, x1⟩
  by_cases h5 : 500 < l.length
  · refine run ?_
    refine L.c1 rfl (pawake_c h1 (hV.ext x1)) ?_
    rintro _ h2 ⟨rfl, x2⟩
    refine run ?_
    exact ret1 rfl (by constructor) ⟨rfl, x1.trans x2⟩
  · refine run ?_
    refine L.c1 rfl (right_c l h1 (hV.ext x1) (by omega)) ?_
    rintro _ h2 ⟨rfl, x2⟩
    cases hr : rightB l with
    | false =>
      refine run ?_
      have hp := rpath_c l h2 (by omega)
      rw [hr] at hp
      refine L.cq rfl hp ?_
      refine run ?_
      exact ret1 rfl (by constructor) ⟨rfl, x1.trans x2⟩
    | true =>
      obtain ⟨hn, c, r, rfl, hc1, hc2⟩ := right_facts hr
      refine run ?_
      have hnum := number_c (c :: r) h2 (hV.ext (x1.trans x2)) (by omega)
      rw [hn] at hnum
      refine L.c1g rfl rfl rfl hnum ?_
      rintro _ h3 ⟨rfl, x3⟩
      have hp := rpath_c (c :: r) h3 (by omega)
      rw [hr] at hp
      refine run ?_
      refine L.gyes rfl rfl (V.idxS (i := 0) (l := c :: r) rfl rfl (by simp)) ?_
      change L _ _ _ _ _ _ _ (upd _ _ (u8v c)) _
      refine run ?_
      refine L.gyes rfl rfl (V.idxS (i := 0) (l := c :: r) rfl rfl (by simp)) ?_
      change L _ _ _ _ _ _ _ (upd _ _ (u8v c)) _
      by_cases h46 : c.toNat = 46
      · have hlen : 2 ≤ (c :: r).length := by
          cases r with
          | nil => exact absurd rfl (hc2 h46)
          | cons d q => simp
        refine run ?_
        refine L.cq rfl hp ?_
        refine run ?_
        exact ret1 rfl (by constructor) ⟨rfl, x1.trans (x2.trans x3)⟩
      · refine run ?_
        refine L.cq rfl hp ?_
        refine run ?_
        exact ret1 rfl (by constructor) ⟨rfl, x1.trans (x2.trans x3)⟩
end Go.Proofs.YtoggdigclbcndaaDoor.E
