/-
  Package path: Right; the document's answer on names; the statements on paths, walked.
-/
import Derived.Test.YtoggdigclbcndaaDoorPath2
set_option linter.unusedVariables false
set_option linter.unusedSimpArgs false
namespace Go.Proofs.YtoggdigclbcndaaDoor.E
open Go Go.Proofs Go.RowKit
set_option maxRecDepth 100000
theorem map_S (xs : List ByteArray) : xs.map Value.string = (xs.map (·.data.toList)).map S := by
  rw [List.map_map]; apply List.map_congr_left; intro x _; exact S_of x
theorem split_c (c : UInt8) (l : List UInt8) (h : Heap) (hV : Vars h) (hl : l.length < 4294967281) :
    Ret Tryd.prog 20 [S l, S [c]] h (fun v h' => v = .slice (some ⟨h.size, 0, none⟩) (parts c l).length (parts c l).length ∧ New h h' (.cells ((parts c l).map S).toArray 9)) := by
  intro w hw
  obtain ⟨m, hm⟩ := hV.maxLen
  have e1 := splitB_parts c l
  have e2 : Lib.countB ⟨l.toArray⟩ ⟨#[c]⟩ + 1 = (parts c l).length := by
    rw [parts_length]; show Lib.count l [c] + 1 = _; rw [count_one]
  refine (Tryd.strings_Split ⟨l.toArray⟩ ⟨#[c]⟩ m w (by rw [S_size]; exact hl) (by rw [cellH_eq', hw]; exact hm) (Nat.le_refl 1)).mono ?_
  rintro e w' ⟨rfl, rfl⟩
  rw [e2, map_S, e1, hw]
  exact ⟨_, rfl, h.push (.cells ((parts c l).map S).toArray 9), w.drawn, by unfold World.alloc; rw [hw]; rfl, rfl, ⟨rfl⟩⟩
def oldS : List UInt8 := [111, 108, 100]
def tmpS : List UInt8 := [116, 109, 112]
def rightB (l : List UInt8) : Bool :=
  (parts 47 l).all partB && decide (l.length ≤ 40) && decide ((parts 47 l).headD [] ≠ oldS) && decide ((parts 47 l).headD [] ≠ tmpS) && !Lib.hasSuffix l gys
theorem parts_each (c : UInt8) : ∀ (l : List UInt8), ∀ p ∈ parts c l, p.length ≤ l.length
  | [], p, hp => by simp [parts] at hp; subst hp; simp
  | b :: l, p, hp => by
    have ih := parts_each c l
    unfold parts at hp
    split at hp
    · rcases List.mem_cons.1 hp with rfl | hp
      · simp
      · have := ih p hp; simp; omega
    · split at hp
      · rename_i q qs hq
        rw [hq] at ih
        rcases List.mem_cons.1 hp with rfl | hp
        · have := ih q (by simp); simp; omega
        · have := ih p (by simp [hp]); simp; omega
      · simp at hp; subst hp; simp
theorem right_c (l : List UInt8) (h : Heap) (hV : Vars h) (hl : l.length ≤ 1000000) : Ret Tryd.prog 9 [S l] h (fun v h' => v = .bool (rightB l) ∧ Ext h h') := by
  refine Ret.enter Tryd.func9 rfl Tryd.ntmps9 (by show 1 ≤ 38; decide) fun w0 => ?_
  refine run ?_
  refine L.c1 rfl (split_c 47 l h hV (by omega)) ?_
  rintro _ h1 ⟨rfl, n1⟩
  have x1 := n1.ext
  have b1 : Blk h1 h.size ((parts 47 l).map S) 9 := n1.at_
  obtain ⟨ps, hps⟩ : ∃ ps, ps = parts 47 l := ⟨_, rfl⟩
  have hne : 0 < ps.length := by
    rw [hps]; exact List.length_pos_iff.2 (parts_ne 47 l)
  have heach : ∀ p ∈ ps, p.length ≤ 1000000 := by
    intro p hp; rw [hps] at hp; have := parts_each 47 l p hp; omega
  unfold rightB
  rw [← hps] at b1 ⊢
  have hcell : ∀ i (hi : i < ps.length), cellH h1 ((⟨h.size, 0, none⟩ : Addr).add (i * 1)) = some (S ps[i]) := by
    intro i hi; rw [add_lit, Blk.cell b1]; simp [hi]
  have hlen : ps.length ≤ 9223372036854775807 := by
    rw [hps, parts_length]
    have := List.count_le_length (a := (47 : UInt8)) (l := l)
    omega
  refine run ?_
  refine C.loopv (fun k lv h' => ∃ i, i ≤ ps.length ∧ k = ps.length - i ∧ h' = h1 ∧ (∀ j (hj : j < ps.length), j < i → partB ps[j] = true) ∧
    lv = [(0, S l), (3, .slice (some ⟨h.size, 0, none⟩) ps.length ps.length), (8, .slice (some ⟨h.size, 0, none⟩) ps.length ps.length), (9, .int .i64 (ps.length : Int)), (10, .int .i64 (i : Int))]) ps.length _ ⟨0, by omega, by omega, rfl, fun j _ hj => by omega, rfl⟩ ⟨rfl, rfl, rfl, rfl, rfl, trivial⟩ ?_
  rintro k lv h' τ ⟨i, hi, rfl, rfl, hall, rfl⟩
  by_cases hlt : i < ps.length
  · refine run ?_
    refine L.op (V.idx rfl rfl (by omega) (by omega)) ?_
    refine L.op (V.load (v := S ps[i]) rfl (by have := hcell i hlt; simpa using this)) ?_
    refine run ?_
    refine L.cq rfl (part_c ps[i] h' (by have := heach _ (List.getElem_mem hlt); omega)) ?_
    cases hp : partB ps[i] with
    | true =>
      refine run ?_
      refine ⟨_, _, by omega, ⟨i + 1, by omega, rfl, rfl, fun j hj hji => ?_, rfl⟩, rfl, rfl, rfl, rfl, int_eq (by omega), trivial⟩
      by_cases hji' : j = i
      · subst hji'; exact hp
      · exact hall j hj (by omega)
    | false =>
      have : ps.all partB = false := by
        rw [List.all_eq_false]; exact ⟨_, List.getElem_mem hlt, by rw [hp]; decide⟩
      rw [this]
      refine run ?_
      exact ret1 rfl (by constructor) ⟨by simp, x1⟩
  · have hA : ps.all partB = true := by
      rw [List.all_eq_true]
      intro x hx
      obtain ⟨j, hj, rfl⟩ := List.mem_iff_getElem.1 hx
      exact hall j hj (by omega)
    rw [hA]
    obtain ⟨p0, hp0⟩ : ∃ p0, ps.headD [] = p0 := ⟨_, rfl⟩
    have hc0 : cellH h' ((⟨h.size, 0, none⟩ : Addr).add ((0 : Int).toNat * 1)) = some (S p0) := by
      have := hcell 0 hne
      have e : ps[0] = p0 := by rw [← hp0]; cases ps with
        | nil => simp at hne
        | cons p q => rfl
      rw [e] at this; simpa using this
    rw [hp0]
    by_cases h40 : 40 < l.length
    · have : decide (l.length ≤ 40) = false := decide_eq_false (by omega)
      rw [this]
      refine run ?_
      exact ret1 rfl (by constructor) ⟨by simp, x1⟩
    · have : decide (l.length ≤ 40) = true := decide_eq_true (by omega)
      rw [this]
      refine run ?_
      refine L.gyes rfl rfl (V.idx rfl rfl (by omega) (by omega)) ?_
      refine L.gyes rfl rfl (V.load (v := S p0) rfl hc0) ?_
      by_cases ho : p0 = oldS
      · refine L.gyes rfl rfl (V.neqSF (b := oldS) rfl rfl ho) ?_
        refine run ?_
        exact ret1 rfl (by constructor) ⟨by simp [ho], x1⟩
      · refine L.gyes rfl rfl (V.neqST (b := oldS) rfl rfl ho) ?_
        refine run ?_
        refine L.gyes rfl rfl (V.idx rfl rfl (by omega) (by omega)) ?_
        refine L.gyes rfl rfl (V.load (v := S p0) rfl hc0) ?_
        by_cases ht : p0 = tmpS
        · refine L.gyes rfl rfl (V.neqSF (b := tmpS) rfl rfl ht) ?_
          refine run ?_
          exact ret1 rfl (by constructor) ⟨by simp [ht], x1⟩
        · refine L.gyes rfl rfl (V.neqST (b := tmpS) rfl rfl ht) ?_
          refine run ?_
          have hsuf : RetQ Tryd.prog 22 [S l, S gys] h' (.bool (Lib.hasSuffix l gys)) :=
            .of_same fun w _ => Tryd.strings_HasSuffix ⟨l.toArray⟩ ⟨gys.toArray⟩ w (by rw [S_size]; omega)
          refine L.cqg rfl rfl rfl hsuf ?_
          cases Lib.hasSuffix l gys with
          | true =>
            refine run ?_
            exact ret1 rfl (by constructor) ⟨by simp, x1⟩
          | false =>
            refine run ?_
            exact ret1 rfl (by constructor) ⟨by simp [ho, ht], x1⟩
end Go.Proofs.YtoggdigclbcndaaDoor.E
