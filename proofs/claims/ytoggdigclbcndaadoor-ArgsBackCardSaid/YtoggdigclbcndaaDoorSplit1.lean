/-
  A text cut at each of one byte.
-/
import Derived.Lib.Split
set_option linter.unusedVariables false
set_option linter.unusedSimpArgs false
namespace Go.Proofs.YtoggdigclbcndaaDoor.E
open Go Go.Lib
/-- the parts between the bytes c -/
def parts (c : UInt8) : List UInt8 → List (List UInt8)
  | [] => [[]]
  | b :: l => if b = c then [] :: parts c l else match parts c l with
    | p :: ps => (b :: p) :: ps
    | [] => [[b]]
theorem parts_ne (c : UInt8) (l : List UInt8) : parts c l ≠ [] := by
  cases l with
  | nil => simp [parts]
  | cons b l =>
    unfold parts
    split
    · simp
    · split <;> simp
theorem parts_none {c : UInt8} : ∀ {l : List UInt8}, c ∉ l → parts c l = [l]
  | [], _ => rfl
  | b :: l, h => by
    have hb : b ≠ c := fun e => h (by simp [e])
    unfold parts
    rw [if_neg hb, parts_none (fun hm => h (by simp [hm]))]
theorem parts_app {c : UInt8} : ∀ {a : List UInt8} (r : List UInt8), c ∉ a → parts c (a ++ c :: r) = a :: parts c r
  | [], r, _ => by simp [parts]
  | b :: a, r, h => by
    have hb : b ≠ c := fun e => h (by simp [e])
    have ih := parts_app (c := c) (a := a) r (fun hm => h (List.mem_cons_of_mem _ hm))
    rw [List.cons_append, parts, if_neg hb, ih]
theorem index_none {c : UInt8} : ∀ {l : List UInt8}, c ∉ l → index l [c] = -1
  | [], _ => by simp [index]
  | b :: l, h => by
    have hb : ¬ c = b := fun e => h (by simp [e])
    simp [index, hb, index_none (fun hm => h (List.mem_cons_of_mem _ hm))]
theorem index_app {c : UInt8} : ∀ {a : List UInt8} (r : List UInt8), c ∉ a → index (a ++ c :: r) [c] = a.length
  | [], r, _ => by simp [index]
  | b :: a, r, h => by
    have hb : ¬ c = b := fun e => h (by simp [e])
    have := index_app r (fun hm => h (List.mem_cons_of_mem _ hm))
    simp only [List.cons_append, index, this]
    simp [hb]
theorem first_of {c : UInt8} {l : List UInt8} (h : c ∈ l) : ∃ a r, l = a ++ c :: r ∧ c ∉ a := by
  induction l with
  | nil => simp at h
  | cons b l ih =>
    by_cases hb : b = c
    · exact ⟨[], l, by simp [hb], by simp⟩
    · obtain ⟨a, r, h1, h2⟩ := ih (by simpa [Ne.symm hb] using h)
      exact ⟨b :: a, r, by simp [h1], by simp [Ne.symm hb, h2]⟩
theorem splitK_parts (c : UInt8) : ∀ (k : Nat) (l : List UInt8), l.count c ≤ k → splitK [c] 0 k l = parts c l
  | 0, l, h => by
    have : c ∉ l := List.count_eq_zero.1 (by omega)
    rw [parts_none this]; rfl
  | k + 1, l, h => by
    by_cases hc : c ∈ l
    · obtain ⟨a, r, rfl, ha⟩ := first_of hc
      rw [parts_app r ha]
      unfold splitK
      rw [index_app r ha]
      have h1 : ((a.length : Int) == -1) = false := by simp
      rw [h1]
      have hk : r.count c ≤ k := by
        rw [List.count_append, List.count_cons_self] at h; omega
      simp [splitK_parts c k r hk]
    · rw [parts_none hc]
      unfold splitK
      rw [index_none hc]; simp
theorem parts_length (c : UInt8) (l : List UInt8) : (parts c l).length = l.count c + 1 := by
  induction l with
  | nil => rfl
  | cons b l ih =>
    unfold parts
    by_cases hb : b = c
    · subst hb; simp [ih]
    · rw [if_neg hb, List.count_cons_of_ne hb]
      cases hp : parts c l with
      | nil => exact absurd hp (parts_ne c l)
      | cons p ps => rw [← ih, hp]; simp
theorem countFrom_one (c : UInt8) : ∀ (f : Nat) (l : List UInt8), l.length < f → countFrom [c] f l = l.count c
  | 0, l, h => by omega
  | f + 1, l, h => by
    unfold countFrom
    by_cases hc : c ∈ l
    · obtain ⟨a, r, rfl, ha⟩ := first_of hc
      rw [index_app r ha]
      have h1 : ((a.length : Int) == -1) = false := by simp
      rw [h1]
      have hd : (a ++ c :: r).drop (((a.length : Int).toNat) + [c].length) = r := by simp
      simp only [Bool.false_eq_true, if_false, hd]
      rw [countFrom_one c f r (by simp at h; omega), List.count_append, List.count_cons_self, List.count_eq_zero.2 ha]
      omega
    · rw [index_none hc, List.count_eq_zero.2 hc]; simp
theorem count_one (c : UInt8) (l : List UInt8) : count l [c] = l.count c := countFrom_one c _ l (by omega)
theorem splitB_parts (c : UInt8) (l : List UInt8) : (splitB ⟨#[c]⟩ 0 (countB ⟨l.toArray⟩ ⟨#[c]⟩) ⟨l.toArray⟩).map (·.data.toList) = parts c l := by
  rw [splitB_data]
  show splitK [c] 0 (count l [c]) l = _
  rw [count_one, splitK_parts c _ l (Nat.le_refl _)]
end Go.Proofs.YtoggdigclbcndaaDoor.E

