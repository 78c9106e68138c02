/-
  The document's answer on names, walked; PathRights.
-/
import Derived.Test.YtoggdigclbcndaaDoorPath4
set_option linter.unusedVariables false
set_option linter.unusedSimpArgs false
namespace Go.Proofs.YtoggdigclbcndaaDoor.E
open Go Go.Proofs Go.RowKit
set_option maxRecDepth 100000
/-- parts that may be; of the first, too, that it is none of the tool's own -/
def restB (first : Bool) (m : List UInt8) : Bool := (parts 47 m).all partB && (!first || decide ((parts 47 m).headD [] ≠ oldS) && decide ((parts 47 m).headD [] ≠ tmpS))
theorem parts_pre {a : List UInt8} (ha : (47 : UInt8) ∉ a) (r : List UInt8) : ∃ p ps, parts 47 r = p :: ps ∧ parts 47 (a ++ r) = (a ++ p) :: ps := by
  induction a with
  | nil =>
    cases h : parts 47 r with
    | nil => exact absurd h (parts_ne 47 r)
    | cons p ps => exact ⟨p, ps, rfl, by simpa using h⟩
  | cons b a ih =>
    have hb : b ≠ 47 := fun e => ha (by simp [e])
    obtain ⟨p, ps, h1, h2⟩ := ih (fun hm => ha (List.mem_cons_of_mem _ hm))
    exact ⟨p, ps, h1, by rw [List.cons_append, parts, if_neg hb, h2]; rfl⟩
theorem restB_bad {a : List UInt8} (ha : (47 : UInt8) ∉ a) (c : UInt8) (r : List UInt8) (hc : c ≠ 47) (hp : plainB c = false) (f : Bool) : restB f (a ++ c :: r) = false := by
  have h1 : (47 : UInt8) ∉ a ++ [c] := by
    intro hm
    rcases List.mem_append.1 hm with hm | hm
    · exact ha hm
    · simp at hm; exact hc hm.symm
  obtain ⟨p, ps, _, h2⟩ := parts_pre h1 r
  have h3 : a ++ c :: r = (a ++ [c]) ++ r := by simp
  have h4 : partB ((a ++ [c]) ++ p) = false := by
    have : ((a ++ [c]) ++ p).all plainB = false := by
      rw [List.all_eq_false]; exact ⟨c, by simp, by rw [hp]; decide⟩
    simp only [partB, this, Bool.false_and]
  unfold restB
  rw [h3, h2, List.all_cons, h4]; rfl
theorem restB_cut {a : List UInt8} (ha : (47 : UInt8) ∉ a) (r : List UInt8) (f : Bool) : restB f (a ++ 47 :: r) = (partB a && (!f || decide (a ≠ oldS) && decide (a ≠ tmpS)) && restB false r) := by
  unfold restB
  rw [parts_app r ha, List.all_cons]
  simp only [List.headD_cons, Bool.not_false, Bool.true_or, Bool.and_true]
  by_cases h1 : a = oldS <;> by_cases h2 : a = tmpS <;> cases partB a <;> cases (parts 47 r).all partB <;> cases f <;> simp [h1, h2]
theorem restB_end {a : List UInt8} (ha : (47 : UInt8) ∉ a) (f : Bool) : restB f a = (partB a && (!f || decide (a ≠ oldS) && decide (a ≠ tmpS))) := by
  unfold restB
  rw [parts_none ha]; simp
theorem rightB_rest (l : List UInt8) : rightB l = (decide (l.length ≤ 40) && !Lib.hasSuffix l gys && restB true l) := by
  unfold rightB restB
  cases (parts 47 l).all partB <;> cases decide (l.length ≤ 40) <;> cases Lib.hasSuffix l gys <;> simp
theorem hasSuffix_drop (l : List UInt8) : Lib.hasSuffix l gys = decide (4 ≤ l.length ∧ l.drop (l.length - 4) = gys) := by
  by_cases h : Lib.hasSuffix l gys = true
  · rw [h]
    have hb := trim_back h
    obtain ⟨a, rfl⟩ : ∃ a, l = a ++ gys := ⟨_, hb.symm⟩
    symm
    rw [decide_eq_true_iff]
    refine ⟨by simp [gys], ?_⟩
    rw [show (a ++ gys).length - 4 = a.length by simp [gys]]
    rw [List.drop_left]
  · have hf : Lib.hasSuffix l gys = false := by simpa using h
    rw [hf]
    symm
    rw [decide_eq_false_iff_not]
    rintro ⟨h4, hd⟩
    apply h
    have : l = l.take (l.length - 4) ++ gys := by rw [← hd]; simp
    rw [this]; exact hasSuffix_app _ _
/-- a part of l from f to i -/
theorem drop_split (l : List UInt8) (f i : Nat) (h1 : f ≤ i) (h2 : i < l.length) : l.drop f = (l.take i).drop f ++ l[i] :: l.drop (i + 1) := by
  conv => lhs; rw [← List.take_append_drop i l]
  rw [List.drop_append_of_le_length (by rw [List.length_take]; omega), List.drop_eq_getElem_cons h2]
theorem plain_cases {c : UInt8} (h : plainB c = true) : (97 ≤ c.toNat ∧ c.toNat ≤ 122) ∨ (48 ≤ c.toNat ∧ c.toNat ≤ 57) ∨ c.toNat = 46 ∨ c.toNat = 95 ∨ c.toNat = 45 := by simpa [plainB] using h
theorem plain_none {c : UInt8} (h : plainB c = false) : (122 < c.toNat) ∨ (57 < c.toNat ∧ c.toNat < 97 ∧ c.toNat ≠ 95) ∨ (c.toNat < 48 ∧ c.toNat ≠ 46 ∧ c.toNat ≠ 45) := by
  have h' := of_decide_eq_false h; omega
theorem no47 {a : List UInt8} (h : a.all plainB = true) : (47 : UInt8) ∉ a := by
  intro hm
  have := List.all_eq_true.1 h _ hm
  revert this; decide
set_option maxHeartbeats 4000000 in
theorem rpath_c (l : List UInt8) (h : Heap) (hl : l.length ≤ 9223372036854775000) : RetQ Tryd.prog 11 [S l] h (.bool (rightB l)) := by
  refine Ret.quiet (Ret.enter Tryd.func11 rfl Tryd.ntmps11 (by show 1 ≤ 97; decide) fun w0 => ?_)
  rw [rightB_rest]
  by_cases h40 : 40 < l.length
  · have : decide (l.length ≤ 40) = false := decide_eq_false (by omega)
    rw [this]
    refine run ?_
    exact ret1 rfl (by constructor) ⟨by simp, rfl⟩
  have e40 : decide (l.length ≤ 40) = true := decide_eq_true (by omega)
  rw [e40, hasSuffix_drop]
  have fin : ∀ (hd : ¬ (4 ≤ l.length ∧ l.drop (l.length - 4) = gys)), (true && !decide (4 ≤ l.length ∧ l.drop (l.length - 4) = gys) && restB true l) = restB true l := fun hd => by rw [decide_eq_false hd]; rfl
  by_cases hsuf : 4 ≤ l.length ∧ l.drop (l.length - 4) = gys
  · rw [decide_eq_true hsuf]
    obtain ⟨h4, hg⟩ := hsuf
    refine run ?_
    refine L.gyes rfl rfl (V.cutS (i := l.length - 4) (j := l.length) rfl (.inr ⟨.i64, by simp; exact int_eq (by omega)⟩) (.inl ⟨rfl, rfl⟩) (by omega) (by omega)) ?_
    rw [List.take_length]
    change l.drop (l.length - 4) = [46, 103, 121, 115] at hg
    refine run ?_
    exact ret1 rfl (by constructor) ⟨by simp, rfl⟩
  rw [fin hsuf]
  have two : l.length < 4 ∨ 4 ≤ l.length ∧ l.drop (l.length - 4) ≠ [46, 103, 121, 115] := by
    by_cases h4 : 4 ≤ l.length
    · exact .inr ⟨h4, fun hx => hsuf ⟨h4, hx⟩⟩
    · exact .inl (by omega)
  clear fin e40 hsuf
  rcases two with h4 | ⟨h4, hg⟩
  rotate_left
  refine run ?_
  refine L.gyes rfl rfl (V.cutS (i := l.length - 4) (j := l.length) rfl (.inr ⟨.i64, by simp; exact int_eq (by omega)⟩) (.inl ⟨rfl, rfl⟩) (by omega) (by omega)) ?_
  rw [List.take_length]
  refine run ?_
  rotate_left
  refine run ?_
  all_goals
    refine C.loopv (fun k lv h' => ∃ f i, k = l.length + 1 - i ∧ h' = h ∧ ((f ≤ i ∧ i ≤ l.length ∧ restB true l = restB (decide (f = 0)) (l.drop f) ∧ ((l.take i).drop f).all plainB = true) ∨ (i = l.length + 1 ∧ restB true l = true)) ∧
      lv = [(0, S l), (3, .int .i64 (f : Int)), (4, .int .i64 (i : Int))]) (l.length + 1) _ ⟨0, 0, by omega, rfl, .inl ⟨by omega, by omega, by simp, by simp⟩, rfl⟩ ⟨rfl, rfl, rfl, trivial⟩ ?_
    rintro k lv h' τ ⟨f, i, rfl, rfl, hI, rfl⟩
    rcases hI with ⟨hfi, hil, hR, hpl⟩ | ⟨rfl, hR⟩
    rotate_left
    · rw [hR]
      refine run ?_
      exact ret1 rfl (by constructor) ⟨rfl, rfl⟩
    by_cases hlt : i < l.length
    · have hsp := drop_split l f i hfi hlt
      have h47 := no47 hpl
      by_cases hc : l[i].toNat = 47
      · obtain ⟨r, hr⟩ : ∃ r, r = l.drop (i + 1) := ⟨_, rfl⟩
        have hci : l[i] = 47 := UInt8.toNat_inj.1 (by rw [hc]; rfl)
        rw [hci, ← hr] at hsp
        rw [hsp, restB_cut h47] at hR
        obtain ⟨a, ha⟩ : ∃ a, a = (l.take i).drop f := ⟨_, rfl⟩
        rw [← ha] at hR hpl
        refine run ?_
        refine L.op (V.cutS (i := f) (j := i) rfl (.inr ⟨.i64, rfl⟩) (.inr ⟨.i64, rfl⟩) hfi hil) ?_
        rw [← ha]
        have hpa : partB a = (decide (a ≠ []) && decide (a ≠ [46]) && decide (a ≠ [46, 46])) := by unfold partB; rw [hpl]; rfl
        have hnext : (partB a && (!(decide (f = 0)) || decide (a ≠ oldS) && decide (a ≠ tmpS))) = true → restB true l = restB (decide (i + 1 = 0)) (l.drop (i + 1)) := fun hx => by
          rw [hR, hx, ← hr]; rfl
        have hstop : (partB a && (!(decide (f = 0)) || decide (a ≠ oldS) && decide (a ≠ tmpS))) = false → restB true l = false := fun hx => by rw [hR, hx]; rfl
        by_cases a0 : a = []
        · rw [hstop (by rw [hpa]; simp [a0])]
          refine run ?_
          exact ret1 rfl (by constructor) ⟨rfl, rfl⟩
        by_cases a1 : a = [46]
        · rw [hstop (by rw [hpa]; simp [a1])]
          refine run ?_
          exact ret1 rfl (by constructor) ⟨rfl, rfl⟩
        by_cases a2 : a = [46, 46]
        · rw [hstop (by rw [hpa]; simp [a2])]
          refine run ?_
          exact ret1 rfl (by constructor) ⟨rfl, rfl⟩
        by_cases f0 : f = 0
        · by_cases ho : a = [111, 108, 100]
          · rw [hstop (by rw [hpa]; simp [f0, ho, oldS])]
            refine run ?_
            exact ret1 rfl (by constructor) ⟨rfl, rfl⟩
          · by_cases ht : a = [116, 109, 112]
            · rw [hstop (by rw [hpa]; simp [f0, ht, tmpS])]
              refine run ?_
              exact ret1 rfl (by constructor) ⟨rfl, rfl⟩
            · have hn := hnext (by rw [hpa]; simp [a0, a1, a2, ho, ht, oldS, tmpS])
              refine run ?_
              exact ⟨_, _, by omega, ⟨i + 1, i + 1, rfl, rfl, .inl ⟨by omega, by omega, hn, by simp⟩, rfl⟩, rfl, int_eq (by omega), int_eq (by omega), trivial⟩
        · have hn := hnext (by rw [hpa]; simp [a0, a1, a2, f0])
          refine run ?_
          exact ⟨_, _, by omega, ⟨i + 1, i + 1, rfl, rfl, .inl ⟨by omega, by omega, hn, by simp⟩, rfl⟩, rfl, int_eq (by omega), int_eq (by omega), trivial⟩
      · cases hp : plainB l[i] with
        | true =>
          have hst : restB true l = restB (decide (f = 0)) (l.drop f) ∧ ((l.take (i + 1)).drop f).all plainB = true := by
            refine ⟨hR, ?_⟩
            rw [List.take_succ_eq_append_getElem hlt, List.drop_append_of_le_length (by rw [List.length_take]; omega), List.all_append, hpl]
            simp [hp]
          have hcs := plain_cases hp
          rcases hcs with hcs | hcs | hcs | hcs | hcs <;>
            (refine run ?_
             exact ⟨_, _, by omega, ⟨f, i + 1, rfl, rfl, .inl ⟨by omega, by omega, hst⟩, rfl⟩, rfl, rfl, int_eq (by omega), trivial⟩)
        | false =>
          have hst : restB true l = false := by rw [hR, hsp, restB_bad h47 l[i] _ (fun e => hc (by rw [e]; rfl)) hp]
          rw [hst]
          have hcs := plain_none hp
          rcases hcs with hcs | hcs | hcs <;>
            (refine run ?_
             exact ret1 rfl (by constructor) ⟨rfl, rfl⟩)
    · obtain rfl : i = l.length := by omega
      have h47 := no47 hpl
      rw [List.take_length] at h47 hpl
      rw [restB_end h47] at hR
      obtain ⟨a, ha⟩ : ∃ a, a = l.drop f := ⟨_, rfl⟩
      rw [← ha] at hR hpl
      refine run ?_
      refine L.op (V.cutS (i := f) (j := l.length) rfl (.inr ⟨.i64, rfl⟩) (.inr ⟨.i64, rfl⟩) hfi hil) ?_
      rw [List.take_length, ← ha]
      have hpa : partB a = (decide (a ≠ []) && decide (a ≠ [46]) && decide (a ≠ [46, 46])) := by unfold partB; rw [hpl]; rfl
      have hnext : (partB a && (!(decide (f = 0)) || decide (a ≠ oldS) && decide (a ≠ tmpS))) = true → restB true l = true := fun hx => by rw [hR, hx]
      have hstop : (partB a && (!(decide (f = 0)) || decide (a ≠ oldS) && decide (a ≠ tmpS))) = false → restB true l = false := fun hx => by rw [hR, hx]
      by_cases a0 : a = []
      · rw [hstop (by rw [hpa]; simp [a0])]
        refine run ?_
        exact ret1 rfl (by constructor) ⟨rfl, rfl⟩
      by_cases a1 : a = [46]
      · rw [hstop (by rw [hpa]; simp [a1])]
        refine run ?_
        exact ret1 rfl (by constructor) ⟨rfl, rfl⟩
      by_cases a2 : a = [46, 46]
      · rw [hstop (by rw [hpa]; simp [a2])]
        refine run ?_
        exact ret1 rfl (by constructor) ⟨rfl, rfl⟩
      by_cases f0 : f = 0
      · by_cases ho : a = [111, 108, 100]
        · rw [hstop (by rw [hpa]; simp [f0, ho, oldS])]
          refine run ?_
          exact ret1 rfl (by constructor) ⟨rfl, rfl⟩
        · by_cases ht : a = [116, 109, 112]
          · rw [hstop (by rw [hpa]; simp [f0, ht, tmpS])]
            refine run ?_
            exact ret1 rfl (by constructor) ⟨rfl, rfl⟩
          · have hn := hnext (by rw [hpa]; simp [a0, a1, a2, ho, ht, oldS, tmpS])
            refine run ?_
            exact ⟨_, _, by omega, ⟨l.length + 1, l.length + 1, rfl, rfl, .inr ⟨rfl, hn⟩, rfl⟩, rfl, int_eq (by omega), int_eq (by omega), trivial⟩
      · have hn := hnext (by rw [hpa]; simp [a0, a1, a2, f0])
        refine run ?_
        exact ⟨_, _, by omega, ⟨l.length + 1, l.length + 1, rfl, rfl, .inr ⟨rfl, hn⟩, rfl⟩, rfl, int_eq (by omega), int_eq (by omega), trivial⟩
end Go.Proofs.YtoggdigclbcndaaDoor.E
