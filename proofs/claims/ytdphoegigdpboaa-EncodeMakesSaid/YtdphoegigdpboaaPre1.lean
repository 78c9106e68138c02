/-
  precode: how many parities, what is wrong with sources; sources filled up.
-/
import Derived.Test.YtdphoegigdpboaaVec
import Derived.Test.YtdphoegigdpboaaRows2
set_option linter.unusedVariables false
set_option linter.unusedSimpArgs false
namespace Go.Proofs.Ytdphoegigdpboaa.E
open Go Go.Proofs
set_option maxRecDepth 100000
theorem wrong_ok (k : Nat) (h : Heap) (h1 : 1 ≤ k) (h2 : k ≤ 64) : RetQ Try.prog 84 [.int .i64 (k : Int)] h (.bool false) := by
  refine Ret.quiet (Ret.enter Try.func84 rfl Try.ntmps84 (by show 1 ≤ 9; decide) fun w0 => ?_)
  refine run ?_
  exact ret1 rfl (by constructor) ⟨rfl, rfl⟩
theorem wrong_bad (k : Nat) (h : Heap) (hk : k < 1 ∨ 64 < k) : RetQ Try.prog 84 [.int .i64 (k : Int)] h (.bool true) := by
  refine Ret.quiet (Ret.enter Try.func84 rfl Try.ntmps84 (by show 1 ≤ 9; decide) fun w0 => ?_)
  rcases hk with hk | hk
  · refine run ?_
    exact ret1 rfl (by constructor) ⟨rfl, rfl⟩
  · refine run ?_
    exact ret1 rfl (by constructor) ⟨rfl, rfl⟩
/-- how many sparse parities -/
def sp (k : Nat) : Nat := (k + 7) / 8 + 1
theorem sparse_c (k : Nat) (h : Heap) (hk : k ≤ 1000) : RetQ Try.prog 85 [.int .i64 (k : Int)] h (.int .i64 (sp k : Int)) := by
  refine Ret.quiet (Ret.enter Try.func85 rfl Try.ntmps85 (by show 1 ≤ 8; decide) fun w0 => ?_)
  refine run ?_
  exact ret1 rfl (by constructor) ⟨int_eq (by simp only [sp]; omega), rfl⟩
theorem count_c (k : Nat) (h : Heap) (h1 : 1 ≤ k) (h2 : k ≤ 64) : RetQ Try.prog 70 [.int .i64 (k : Int)] h (.int .i64 ((sp k + 2 : Nat) : Int)) := by
  refine Ret.quiet (Ret.enter Try.func70 rfl Try.ntmps70 (by show 1 ≤ 8; decide) fun w0 => ?_)
  have hs : sp k ≤ 100 := by simp only [sp]; omega
  refine run ?_
  refine L.cq rfl (wrong_ok k h h1 h2) ?_
  refine run ?_
  refine L.cq rfl (sparse_c k h (by omega)) ?_
  refine run ?_
  exact ret1 rfl (by constructor) ⟨int_eq (by omega), rfl⟩
/-- what is wrong with sources -/
def bad (bss : List (List UInt8)) (size : Int) : Nat :=
  if size < 1 ∨ 256 < size then 1 else if bss.length < 1 ∨ 64 < bss.length then 5 else if ∀ b ∈ bss, (b.length : Int) ≤ size then 0 else 3
theorem bad_arg {bss : List (List UInt8)} {size : Int} (h : size < 1 ∨ 256 < size) : bad bss size = 1 := if_pos h
theorem bad_many {bss : List (List UInt8)} {size : Int} (h : ¬ (size < 1 ∨ 256 < size)) (h2 : bss.length < 1 ∨ 64 < bss.length) : bad bss size = 5 := by rw [bad, if_neg h, if_pos h2]
theorem bad_ok {bss : List (List UInt8)} {size : Int} (h : ¬ (size < 1 ∨ 256 < size)) (h2 : ¬ (bss.length < 1 ∨ 64 < bss.length)) (h3 : ∀ i (hi : i < bss.length), (bss[i].length : Int) ≤ size) : bad bss size = 0 := by
  rw [bad, if_neg h, if_neg h2, if_pos]
  intro b hb
  obtain ⟨i, hi, rfl⟩ := List.mem_iff_getElem.1 hb
  exact h3 i hi
theorem bad_long {bss : List (List UInt8)} {size : Int} (h : ¬ (size < 1 ∨ 256 < size)) (h2 : ¬ (bss.length < 1 ∨ 64 < bss.length)) (i : Nat) (hi : i < bss.length) (h3 : size < bss[i].length) : bad bss size = 3 := by
  rw [bad, if_neg h, if_neg h2, if_neg]
  intro hx
  have := hx _ (List.getElem_mem hi)
  omega
theorem bad_zero {bss : List (List UInt8)} {size : Int} (h : bad bss size = 0) : 1 ≤ size ∧ size ≤ 256 ∧ 1 ≤ bss.length ∧ bss.length ≤ 64 ∧ ∀ i (hi : i < bss.length), (bss[i].length : Int) ≤ size := by
  unfold bad at h
  split at h
  · omega
  · split at h
    · omega
    · split at h
      · rename_i h1 h2 h3
        exact ⟨by omega, by omega, by omega, by omega, fun i hi => h3 _ (List.getElem_mem hi)⟩
      · omega
theorem check_c {p : Nat → Prop} (A : Option Addr) (c : Nat) (bss : List (List UInt8)) (size : Int) (h : Heap) (hA : Bss p h A bss) (hm : bss.length ≤ 140737488355328) :
    RetQ Try.prog 67 [.slice A bss.length c, .int .i64 size] h (.int .i64 (bad bss size : Int)) := by
  refine Ret.quiet (Ret.enter Try.func67 rfl Try.ntmps67 (by show 2 ≤ 29; decide) fun w0 => ?_)
  by_cases h1 : size < 1 ∨ 256 < size
  · rw [bad_arg h1]
    rcases h1 with h1 | h1
    · refine run ?_
      exact ret1 rfl (by constructor) ⟨rfl, rfl⟩
    · by_cases h0 : size < 1
      · omega
      · refine run ?_
        exact ret1 rfl (by constructor) ⟨rfl, rfl⟩
  · have h1a : ¬ size < 1 := by omega
    have h1b : ¬ 256 < size := by omega
    refine run ?_
    by_cases h2 : bss.length < 1 ∨ 64 < bss.length
    · rw [bad_many h1 h2]
      refine L.cq rfl (wrong_bad bss.length h h2) ?_
      refine run ?_
      exact ret1 rfl (by constructor) ⟨rfl, rfl⟩
    · refine L.cq rfl (wrong_ok bss.length h (by omega) (by omega)) ?_
      refine run ?_
      refine C.loopv (fun k l h' => ∃ i, i ≤ bss.length ∧ k = bss.length - i ∧ h' = h ∧ (∀ j (hj : j < bss.length), j < i → (bss[j].length : Int) ≤ size) ∧
        l = [(1, .int .i64 size), (18, .slice A bss.length c), (19, .int .i64 (bss.length : Int)), (20, .int .i64 (i : Int))]) bss.length _ ⟨0, by omega, by omega, rfl, fun j _ hj => by omega, rfl⟩ ⟨rfl, rfl, rfl, rfl, trivial⟩ ?_
      rintro k l h' τ ⟨i, hi, rfl, rfl, hall, rfl⟩
      by_cases hlt : i < bss.length
      · obtain ⟨a, Ai, ci, rfl, hc, hci, hri⟩ := hA.at_ hlt
        refine run ?_
        refine L.op (V.idx rfl rfl (by omega) (by omega)) ?_
        refine L.op (V.load rfl (by simpa using hc)) ?_
        by_cases h3 : size < (bss[i].length : Int)
        · rw [bad_long h1 h2 i hlt h3]
          refine run ?_
          exact ret1 rfl (by constructor) ⟨rfl, rfl⟩
        · refine run ?_
          refine ⟨_, _, by omega, ⟨i + 1, by omega, rfl, rfl, fun j hj hji => ?_, rfl⟩, rfl, rfl, rfl, int_eq (by omega), trivial⟩
          by_cases hji' : j = i
          · subst hji'; omega
          · exact hall j hj (by omega)
      · rw [bad_ok h1 h2 (fun j hj => hall j hj (by omega))]
        refine run ?_
        exact ret1 rfl (by constructor) ⟨rfl, rfl⟩
theorem fill_long (b : List UInt8) (m : Nat) (h : b.length ≤ m) : fill b m = b ++ List.replicate (m - b.length) 0 := by rw [fill, List.take_of_length_le h]
/-- an own row is one that is read -/
theorem Own.bsq {h : Heap} {base e : Nat} {v : Value} {bs : List UInt8} {nn : Nat} {p : Nat → Prop} (o : Own h base e 1 v nn (bys bs)) (hp : ∀ b, base ≤ b → b < h.size → p b) : BsP p h v bs :=
  o.bsp.mono (fun b hb hv => hp b (o.base hv).1 hb)
theorem map_take_succ {α β : Type} (f : α → β) (l : List α) (i : Nat) (hi : i < l.length) : (l.take i).map f ++ [f l[i]] = (l.take (i + 1)).map f := by
  rw [List.take_succ_eq_append_getElem hi, List.map_append]; rfl
end Go.Proofs.Ytdphoegigdpboaa.E
