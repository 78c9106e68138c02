/-
  In the midst of a region: what holds of slots and heap behind it is said anew.
-/
import Derived.Test.YtoggdigclbcndaaDoorRun
set_option linter.unusedVariables false
set_option linter.unusedSimpArgs false
namespace Go.Proofs.YtoggdigclbcndaaDoor.E
open Go
section
variable {P : Program} {Q Q' : Exit → Act → World → Prop}
theorem oper_mono {o : Oper} {a : Act} {w : World} {K K' : Act → World → Prop} (h : ∀ a w, K a w → K' a w) (hq : ∀ e a w, Q e a w → Q' e a w)
    (hh : o.wp P a w K Q) : o.wp P a w K' Q' := by
  unfold Oper.wp at *
  generalize (execOp a.eval o).run P w = r at *
  cases r with
  | ok n w' =>
    cases n <;> simp only [Oper.upon] at hh ⊢ <;>
      first
        | exact h _ _ hh
        | exact hq _ _ _ hh
        | exact Calls.mono hh (fun e w'' he => by cases e <;> first | exact h _ _ he | exact hq _ _ _ he | exact (let ⟨a1, w1, h2⟩ := he; ⟨a1, w1, hq _ _ _ h2⟩))
        | exact Rows.mono hh (fun _ _ he => h _ _ he)
        | exact hh
  | halt x w' => cases x <;> simp only [Oper.upon] at hh ⊢ <;> first | exact hq _ _ _ hh | exact hh
theorem list_mono {ops : Array Oper} (hq : ∀ e a w, Q e a w → Q' e a w) : ∀ (l : List Oper) (a : Act) (w : World), wpList P ops Q l a w → wpList P ops Q' l a w
  | [], a, w, hh => hq _ _ _ hh
  | o :: l, a, w, hh => by
    unfold wpList at hh ⊢
    split
    · rename_i hw
      rw [if_pos hw] at hh
      rcases hh with hh | ⟨h1, a', w', h2⟩
      · exact .inl (oper_mono (fun a w => list_mono hq l a w) hq hh)
      · exact .inr ⟨h1, a', w', hq _ _ _ h2⟩
    · rename_i hw
      rw [if_neg hw] at hh
      exact list_mono hq l _ _ hh
variable {w0 : World} {n : Nat} {Φ Ψ : Post} {σ : Slots} {h : Heap} {ops : Array Oper}
theorem L.mono {l : List Oper} (hl : L P w0 n ops .seq Ψ l σ h) (hm : ∀ e σ h, Ψ e σ h → Φ e σ h) : L P w0 n ops .seq Φ l σ h :=
  ⟨fun d => list_mono (by rintro e a w ⟨σ, h, d, rfl, rfl, hh⟩; exact ⟨σ, h, d, rfl, rfl, hm _ _ _ hh⟩) _ _ _ (hl.out d)⟩
theorem L.cutv {l : List Oper} {y : Code} (A : List (Nat × Value) → Heap → Prop) (hx : L P w0 n ops .seq (Th (fun σ h => ∃ lv, A lv h ∧ Holds σ lv) Φ) l σ h)
    (hy : ∀ lv h τ, A lv h → C P w0 n y Φ (ups τ lv) h) : L P w0 n ops .seq (Th (fun σ h => C P w0 n y Φ σ h) Φ) l σ h := by
  refine hx.mono ?_
  intro e σ h hh
  unfold Th at hh ⊢
  cases e <;> try exact hh
  obtain ⟨lv, hA, hl⟩ := hh
  have := hy lv h σ hA
  rwa [ups_of hl] at this
end
end Go.Proofs.YtoggdigclbcndaaDoor.E
