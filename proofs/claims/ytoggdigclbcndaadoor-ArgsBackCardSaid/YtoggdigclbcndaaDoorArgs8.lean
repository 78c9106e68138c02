/-
  The law's own digits and same, walked.
-/
import Derived.Test.YtoggdigclbcndaaDoorArgs7
import Derived.Test.YtoggdigclbcndaaDoorCutL
set_option linter.unusedVariables false
set_option linter.unusedSimpArgs false
namespace Go.Proofs.YtoggdigclbcndaaDoor.E
open Go Go.Proofs Go.RowKit
set_option maxRecDepth 100000
theorem ldigits_c (u : Nat) (h : Heap) (hu : u ≤ 4294967295) : Ret Tryd.prog 16 [.int .u64 (u : Int)] h (fun v h' => v = S (Lib.decDigits u) ∧ Ext h h') := by
  refine Ret.enter Tryd.func16 rfl Tryd.ntmps16 (by show 1 ≤ 21; decide) fun w0 => ?_
  refine run ?_
  refine C.loopv (fun k lv h' => ∃ (m : Nat) (s : List UInt8), k = m + (if s = [] then 1 else 0) ∧ Ext h h' ∧ m ≤ u ∧ ((s = [] ∧ m = u) ∨ (s ≠ [] ∧ (m = 0 → Lib.decDigits u = s) ∧ (m ≠ 0 → Lib.decDigits u = Lib.decDigits m ++ s))) ∧
    lv = [(0, .int .u64 (m : Int)), (3, S s)]) _ _ ⟨u, [], rfl, Mods.refl _ _, Nat.le_refl _, .inl ⟨rfl, rfl⟩, rfl⟩ ⟨rfl, rfl, trivial⟩ ?_
  rintro k lv h1 τ ⟨m, s, rfl, hx, hmu, hI, rfl⟩
  have hdu := dec_len20 u hu
  have hsl : s.length ≤ 20 := by
    rcases hI with ⟨rfl, _⟩ | ⟨_, h1', h2'⟩
    · simp
    · by_cases hm : m = 0
      · rw [h1' hm] at hdu; exact hdu
      · rw [h2' hm, List.length_append] at hdu; omega
  have step : ∀ (hgo : m ≠ 0 ∨ s = []), m / 10 + (if (UInt8.ofNat (48 + m % 10) :: s) = [] then 1 else 0) < m + (if s = [] then 1 else 0) ∧
      (((UInt8.ofNat (48 + m % 10) :: s) = [] ∧ m / 10 = u) ∨ ((UInt8.ofNat (48 + m % 10) :: s) ≠ [] ∧ (m / 10 = 0 → Lib.decDigits u = UInt8.ofNat (48 + m % 10) :: s) ∧ (m / 10 ≠ 0 → Lib.decDigits u = Lib.decDigits (m / 10) ++ UInt8.ofNat (48 + m % 10) :: s))) := by
    intro hgo
    rw [if_neg (by simp)]
    have e1 : m / 10 = 0 → Lib.decDigits m = [UInt8.ofNat (48 + m % 10)] := fun h0 => by
      rw [dec_small (by omega), Nat.mod_eq_of_lt (by omega)]
    have e2 : m / 10 ≠ 0 → Lib.decDigits m = Lib.decDigits (m / 10) ++ [UInt8.ofNat (48 + m % 10)] := fun h0 => dec_big (by omega)
    refine ⟨?_, .inr ⟨by simp, fun h0 => ?_, fun h0 => ?_⟩⟩
    · rcases hgo with hgo | hgo
      · omega
      · rw [if_pos hgo]; omega
    · rcases hI with ⟨rfl, rfl⟩ | ⟨hs, h1, h2⟩
      · exact e1 h0
      · by_cases hm : m = 0
        · rcases hgo with hgo | hgo
          · exact absurd hm hgo
          · exact absurd hgo hs
        · rw [h2 hm, e1 h0]; rfl
    · rcases hI with ⟨rfl, rfl⟩ | ⟨hs, h1, h2⟩
      · exact e2 h0
      · have hm : m ≠ 0 := by omega
        rw [h2 hm, e2 h0]; simp
  have ew : IntKind.u64.wrap (48 + (m : Int) % 10) = ((48 + m % 10 : Nat) : Int) := by rw [IntKind.wrap_u64]; omega
  have eq : IntKind.u64.wrap ((m : Int).tdiv 10) = ((m / 10 : Nat) : Int) := by
    rw [show (m : Int).tdiv 10 = ((m / 10 : Nat) : Int) from rfl, IntKind.wrap_u64]; omega
  by_cases hm : m = 0
  · by_cases hs : s = []
    · obtain ⟨g1, g3⟩ := step (.inr hs)
      refine run ?_
      refine L.op (V.add rfl rfl) ?_
      rw [ew]
      refine run ?_
      refine L.do1 (D.bs1 (v := u8v (UInt8.ofNat (48 + m % 10))) (z := .int .u8 0) (u8_eq (by omega) (by omega)) rfl rfl) ?_
      rintro _ h2 ⟨rfl, m2⟩
      have r2 : RowP (fun _ => True) h2 (some ⟨h1.size, 0, none⟩) (bys [UInt8.ofNat (48 + m % 10)]) := m2.strRow
      refine L.op (V.strS (bs := [UInt8.ofNat (48 + m % 10)]) rfl r2) ?_
      refine run ?_
      refine L.op (V.catS (a := [UInt8.ofNat (48 + m % 10)]) (b := s) rfl rfl (by simp; omega)) ?_
      refine run ?_
      refine L.op (V.quo rfl rfl (by decide)) ?_
      rw [eq]
      refine run ?_
      exact ⟨_, _, g1, ⟨m / 10, _, rfl, hx.trans m2.ext, by omega, g3, rfl⟩, rfl, rfl, trivial⟩
    · rcases hI with ⟨h0, _⟩ | ⟨_, h1', _⟩
      · exact absurd h0 hs
      · refine run ?_
        exact ret1 rfl (by constructor) ⟨by rw [h1' hm], hx⟩
  · obtain ⟨g1, g3⟩ := step (.inl hm)
    refine run ?_
    refine L.op (V.add rfl rfl) ?_
    rw [ew]
    refine run ?_
    refine L.do1 (D.bs1 (v := u8v (UInt8.ofNat (48 + m % 10))) (z := .int .u8 0) (u8_eq (by omega) (by omega)) rfl rfl) ?_
    rintro _ h2 ⟨rfl, m2⟩
    have r2 : RowP (fun _ => True) h2 (some ⟨h1.size, 0, none⟩) (bys [UInt8.ofNat (48 + m % 10)]) := m2.strRow
    refine L.op (V.strS (bs := [UInt8.ofNat (48 + m % 10)]) rfl r2) ?_
    refine run ?_
    refine L.op (V.catS (a := [UInt8.ofNat (48 + m % 10)]) (b := s) rfl rfl (by simp; omega)) ?_
    refine run ?_
    refine L.op (V.quo rfl rfl (by decide)) ?_
    rw [eq]
    refine run ?_
    exact ⟨_, _, g1, ⟨m / 10, _, rfl, hx.trans m2.ext, by omega, g3, rfl⟩, rfl, rfl, trivial⟩
end Go.Proofs.YtoggdigclbcndaaDoor.E
