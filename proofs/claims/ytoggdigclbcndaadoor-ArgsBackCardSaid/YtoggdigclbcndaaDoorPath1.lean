/-
  Package path, walked: plain, part, digits, Volume, Number, Aside, Fresh, Right.
-/
import Derived.Test.YtoggdigclbcndaaDoorBridge
import Derived.Test.YtoggdigclbcndaaDoorSplit1
import Derived.Test.YtoggdigclbcndaaDoorTy
import Derived.Test.YtoggdigclbcndaaDoorRows2
set_option linter.unusedVariables false
set_option linter.unusedSimpArgs false
namespace Go.Proofs.YtoggdigclbcndaaDoor.E
open Go Go.Proofs
set_option maxRecDepth 100000
section
variable {P : Program} {w0 : World} {n : Nat} {σ : Slots} {h : Heap} {ops : Array Oper} {Φ : Post}
theorem L.c1g {f : FuncId} [he : Enters P f] {d : Nat} {ty : TypeId} {pos : String} {after : Array Edge} {rest : List Oper} {l : List Operand} {ats : Array TypeId} {vals : List Value} {S : Value → Heap → Prop} {j dj : Nat} {b : Bool}
    (hd : (ops[j]?).bind (·.dst) = some dj) (hs : ev n σ (.tmp dj) = .bool b) (hv : l.map (ev n σ) = vals) (hc : Ret P f vals h S) (hl : ∀ v h', S v h' → L P w0 n ops .seq Φ rest (upd σ d v) h') :
    L P w0 n ops .seq Φ (⟨some d, .call { callee := .value (.func f), args := l.toArray, argTypes := ats }, ty, pos, after, some (j, b)⟩ :: rest) σ h :=
  .callw (by simp [Region.wanted, yielded_fr hd hs]) rfl hv hc hl
theorem L.cqg {f : FuncId} [he : Enters P f] {d : Nat} {ty : TypeId} {pos : String} {after : Array Edge} {rest : List Oper} {l : List Operand} {ats : Array TypeId} {vals : List Value} {v : Value} {j dj : Nat} {b : Bool}
    (hd : (ops[j]?).bind (·.dst) = some dj) (hs : ev n σ (.tmp dj) = .bool b) (hv : l.map (ev n σ) = vals) (hc : RetQ P f vals h v) (hl : L P w0 n ops .seq Φ rest (upd σ d v) h) :
    L P w0 n ops .seq Φ (⟨some d, .call { callee := .value (.func f), args := l.toArray, argTypes := ats }, ty, pos, after, some (j, b)⟩ :: rest) σ h :=
  L.callq (by intro h; cases h) (by simp [Region.wanted, yielded_fr hd hs]) hv hc hl
end
/-! plain, part -/
def plainB (c : UInt8) : Bool := decide (97 ≤ c.toNat ∧ c.toNat ≤ 122 ∨ 48 ≤ c.toNat ∧ c.toNat ≤ 57 ∨ c.toNat = 46 ∨ c.toNat = 95 ∨ c.toNat = 45)
theorem plain_c (c : UInt8) (h : Heap) : RetQ Tryd.prog 32 [u8v c] h (.bool (plainB c)) := by
  have hc : c.toNat < 256 := c.toNat_lt
  refine Ret.quiet (Ret.enter Tryd.func32 rfl Tryd.ntmps32 (by show 1 ≤ 29; decide) fun w0 => ?_)
  unfold plainB
  by_cases h1 : 97 ≤ c.toNat ∧ c.toNat ≤ 122
  · rw [decide_eq_true (by omega)]
    refine run ?_
    exact ret1 rfl (by constructor) ⟨rfl, rfl⟩
  by_cases h2 : 48 ≤ c.toNat ∧ c.toNat ≤ 57
  · rw [decide_eq_true (by omega)]
    refine run ?_
    exact ret1 rfl (by constructor) ⟨rfl, rfl⟩
  by_cases h3 : c.toNat = 46
  · rw [decide_eq_true (by omega)]
    refine run ?_
    exact ret1 rfl (by constructor) ⟨rfl, rfl⟩
  by_cases h4 : c.toNat = 95
  · rw [decide_eq_true (by omega)]
    refine run ?_
    exact ret1 rfl (by constructor) ⟨rfl, rfl⟩
  by_cases h5 : c.toNat = 45
  · rw [decide_eq_true (by omega)]
    refine run ?_
    exact ret1 rfl (by constructor) ⟨rfl, rfl⟩
  rw [decide_eq_false (by omega)]
  by_cases h6 : 97 ≤ c.toNat
  · refine run ?_
    exact ret1 rfl (by constructor) ⟨rfl, rfl⟩
  · by_cases h7 : 48 ≤ c.toNat
    · refine run ?_
      exact ret1 rfl (by constructor) ⟨rfl, rfl⟩
    · refine run ?_
      exact ret1 rfl (by constructor) ⟨rfl, rfl⟩
def partB (l : List UInt8) : Bool := l.all plainB && decide (l ≠ []) && decide (l ≠ [46]) && decide (l ≠ [46, 46])
theorem part_c (l : List UInt8) (h : Heap) (hm : l.length ≤ 9223372036854775807) : RetQ Tryd.prog 21 [S l] h (.bool (partB l)) := by
  refine Ret.quiet (Ret.enter Tryd.func21 rfl Tryd.ntmps21 (by show 1 ≤ 25; decide) fun w0 => ?_)
  refine run ?_
  refine C.loopv (fun k lv h' => ∃ i, i ≤ l.length ∧ k = l.length - i ∧ h' = h ∧ (∀ j (hj : j < l.length), j < i → plainB l[j] = true) ∧
    lv = [(0, S l), (5, .int .i64 (l.length : Int)), (6, .int .i64 (i : Int))]) l.length _ ⟨0, by omega, by omega, rfl, fun j _ hj => by omega, rfl⟩ ⟨rfl, rfl, rfl, trivial⟩ ?_
  rintro k lv h' τ ⟨i, hi, rfl, rfl, hall, rfl⟩
  by_cases hlt : i < l.length
  · refine run ?_
    refine L.cq rfl (plain_c l[i] h') ?_
    cases hp : plainB l[i] with
    | true =>
      refine run ?_
      refine ⟨_, _, by omega, ⟨i + 1, by omega, rfl, rfl, fun j hj hji => ?_, rfl⟩, rfl, rfl, int_eq (by omega), trivial⟩
      by_cases hji' : j = i
      · subst hji'; exact hp
      · exact hall j hj (by omega)
    | false =>
      have : partB l = false := by
        have : l.all plainB = false := by
          rw [List.all_eq_false]
          exact ⟨_, List.getElem_mem hlt, by rw [hp]; decide⟩
        simp [partB, this]
      rw [this]
      refine run ?_
      exact ret1 rfl (by constructor) ⟨rfl, rfl⟩
  · have hA : l.all plainB = true := by
      rw [List.all_eq_true]
      intro x hx
      obtain ⟨j, hj, rfl⟩ := List.mem_iff_getElem.1 hx
      exact hall j hj (by omega)
    unfold partB
    rw [hA]
    by_cases h1 : l = []
    · refine run ?_
      exact ret1 rfl (by constructor) ⟨by simp [h1], rfl⟩
    · by_cases h2 : l = [46]
      · refine run ?_
        exact ret1 rfl (by constructor) ⟨by simp [h2], rfl⟩
      · by_cases h3 : l = [46, 46]
        · refine run ?_
          exact ret1 rfl (by constructor) ⟨by simp [h3], rfl⟩
        · refine run ?_
          exact ret1 rfl (by constructor) ⟨by simp [h1, h2, h3], rfl⟩
/-! digits and names -/
def digs (n : Int) : List UInt8 := if n < 0 ∨ 999 < n then [] else Lib.itoa n
theorem itoa_c (n : Int) (h : Heap) (hV : Vars h) (h0 : -9223372036854775808 ≤ n) (h1 : n ≤ 9223372036854775807) : Ret Tryd.prog 37 [.int .i64 n] h (fun v h' => v = S (Lib.itoa n) ∧ Ext h h') :=
  (Ret.of_below (S := fun v => v = S (Lib.itoa n)) fun w hw => (Tryd.strconv_Itoa n h0 h1 w (hV.pow w hw)).mono fun e w' ⟨he, k, os, hw'⟩ => ⟨⟨_, he, rfl⟩, by rw [hw']; exact below_grow w k os⟩)
theorem digits_c (n : Int) (h : Heap) (hV : Vars h) : Ret Tryd.prog 25 [.int .i64 n] h (fun v h' => v = S (digs n) ∧ Ext h h') := by
  refine Ret.enter Tryd.func25 rfl Tryd.ntmps25 (by show 1 ≤ 11; decide) fun w0 => ?_
  unfold digs
  by_cases h1 : n < 0
  · rw [if_pos (.inl h1)]
    refine run ?_
    exact ret1 rfl (by constructor) ⟨rfl, Mods.refl _ _⟩
  · by_cases h2 : 999 < n
    · rw [if_pos (.inr h2)]
      refine run ?_
      exact ret1 rfl (by constructor) ⟨rfl, Mods.refl _ _⟩
    · rw [if_neg (by omega)]
      refine run ?_
      refine L.c1 rfl (itoa_c n h hV (by omega) (by omega)) ?_
      rintro _ h' ⟨rfl, x⟩
      refine run ?_
      exact ret1 rfl (by constructor) ⟨rfl, x⟩
end Go.Proofs.YtoggdigclbcndaaDoor.E
