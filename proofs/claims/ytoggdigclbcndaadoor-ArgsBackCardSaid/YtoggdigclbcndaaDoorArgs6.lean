/-
  The plain law of lines: what a line says has just that line; what may be said is read as it is meant.
-/
import Derived.Test.YtoggdigclbcndaaDoorArgs5
set_option linter.unusedVariables false
set_option linter.unusedSimpArgs false
namespace Go.Proofs.YtoggdigclbcndaaDoor.E
open Go Go.Proofs Go.RowKit
set_option maxRecDepth 100000
/-! numerals read again -/
def val (acc : Nat) (l : List UInt8) : Nat := l.foldl (fun a c => a * 10 + (c.toNat - 48)) acc
theorem val_ge : ∀ (l : List UInt8) (acc : Nat), acc ≤ val acc l
  | [], acc => Nat.le_refl _
  | c :: r, acc => by
    have := val_ge r (acc * 10 + (c.toNat - 48))
    show acc ≤ val (acc * 10 + (c.toNat - 48)) r
    omega
theorem parseM_val (M : Nat) (hM : M < 18446744073709551616) : ∀ (l : List UInt8) (acc : Nat), (∀ c ∈ l, 48 ≤ c.toNat ∧ c.toNat ≤ 57) → val acc l ≤ M → Lib.parseUintM M acc l = .ok (val acc l)
  | [], acc, _, _ => rfl
  | c :: r, acc, hd, hv => by
    have h1 := hd c (by simp)
    have h2 := val_ge r (acc * 10 + (c.toNat - 48))
    have h3 : val acc (c :: r) = val (acc * 10 + (c.toNat - 48)) r := rfl
    rw [h3] at hv ⊢
    have ih := parseM_val M hM r (acc * 10 + (c.toNat - 48)) (fun x hx => hd x (by simp [hx])) hv
    unfold Lib.parseUintM
    rw [if_pos h1]
    rw [if_neg (by omega), if_neg (by omega)]
    exact ih
theorem digit_in {u : Nat} : ∀ c ∈ Lib.decDigits u, 48 ≤ c.toNat ∧ c.toNat ≤ 57 := by
  induction u using Nat.strongRecOn with
  | _ u ih =>
    intro c hc
    by_cases h : u < 10
    · rw [dec_small h, List.mem_singleton] at hc
      subst hc
      rw [UInt8.toNat_ofNat']; omega
    · rw [dec_big h] at hc
      rcases List.mem_append.1 hc with hc | hc
      · exact ih (u / 10) (by omega) c hc
      · rw [List.mem_singleton] at hc
        subst hc
        rw [UInt8.toNat_ofNat']; omega
theorem val_dec (u : Nat) : val 0 (Lib.decDigits u) = u := by
  induction u using Nat.strongRecOn with
  | _ u ih =>
    by_cases h : u < 10
    · rw [dec_small h]
      simp only [val, List.foldl_cons, List.foldl_nil]
      rw [UInt8.toNat_ofNat']; omega
    · rw [dec_big h]
      unfold val
      rw [List.foldl_append]
      have := ih (u / 10) (by omega)
      unfold val at this
      rw [this]
      simp only [List.foldl_cons, List.foldl_nil]
      rw [UInt8.toNat_ofNat']; omega
theorem dec_ne (u : Nat) : Lib.decDigits u ≠ [] := by
  by_cases h : u < 10
  · rw [dec_small h]; simp
  · rw [dec_big h]; simp
theorem numU_dec (u : Nat) (h : u ≤ 4294967295) : numU (Lib.decDigits u) = u := by
  unfold numU Lib.parseUintB
  rw [if_neg (dec_ne u), parseM_val _ (by decide) _ _ digit_in (by rw [val_dec]; exact h), val_dec]
  simp
theorem numU_text {l : List UInt8} (h : ¬ numU l < 0) : Lib.decDigits (numU l).toNat = l := by
  unfold numU at h ⊢
  cases ha : Lib.parseUintB 32 l with
  | ok u =>
    rw [ha] at h
    simp only at h ⊢
    by_cases hd : Lib.decDigits u = l
    · rw [if_pos hd, Int.toNat_natCast]; exact hd
    · rw [if_neg hd] at h; omega
  | _ => rw [ha] at h; simp at h
theorem itoa_of {n : Int} (h : ¬ n < 0) : Lib.itoa n = Lib.decDigits n.toNat := by unfold Lib.itoa; rw [if_neg h]
/-! words joined and parted -/
theorem join_cons2 (x y : List UInt8) (r : List (List UInt8)) (c : UInt8) : Lib.join (x :: y :: r) [c] = x ++ c :: Lib.join (y :: r) [c] := by
  simp [Lib.join, List.intercalate]
theorem parts_join (c : UInt8) : ∀ (ws : List (List UInt8)), ws ≠ [] → (∀ w ∈ ws, c ∉ w) → parts c (Lib.join ws [c]) = ws
  | [], h, _ => absurd rfl h
  | [x], _, hc => by rw [Lib.join_one]; exact parts_none (hc x (by simp))
  | x :: y :: r, _, hc => by
    rw [join_cons2, parts_app _ (hc x (by simp)), parts_join c (y :: r) (by simp) (fun w hw => hc w (by simp [hw]))]
theorem join_parts (c : UInt8) (l : List UInt8) : Lib.join (parts c l) [c] = l := by
  induction l with
  | nil => simp [parts, Lib.join_one]
  | cons b l ih =>
    unfold parts
    by_cases hb : b = c
    · rw [if_pos hb]
      cases hp : parts c l with
      | nil => exact absurd hp (parts_ne c l)
      | cons p ps => rw [join_cons2, ← hp, ih, hb]; rfl
    · rw [if_neg hb]
      cases hp : parts c l with
      | nil => exact absurd hp (parts_ne c l)
      | cons p ps =>
        rw [hp] at ih
        simp only
        cases ps with
        | nil => rw [Lib.join_one] at ih ⊢; rw [ih]
        | cons q qs => rw [join_cons2] at ih ⊢; rw [← ih]; rfl
/-! lines -/
def okA (a : AR) : Prop :=
  (a.verb = createS ∧ (1 ≤ a.sl ∧ a.sl ≤ 256) ∧ (0 ≤ a.cn ∧ a.cn ≤ 64) ∧ a.fr = 0 ∧ (1 ≤ a.names.length ∧ a.names.length ≤ 8) ∧ a.names.all rightB = true) ∨
  (a.verb = extendS ∧ a.sl = 0 ∧ (1 ≤ a.cn ∧ a.cn ≤ 64) ∧ (0 ≤ a.fr ∧ a.fr ≤ 4294967295) ∧ a.names = []) ∨
  (single a.verb ∧ a.sl = 0 ∧ a.cn = 0 ∧ a.fr = 0 ∧ a.names = [])
theorem getD_drop (rest : List (List UInt8)) (h : 2 ≤ rest.length) : rest = rest.getD 0 [] :: rest.getD 1 [] :: rest.drop 2 := by
  match rest, h with
  | x :: y :: r, _ => rfl
theorem crP_cases (ws : List (List UInt8)) : (∃ e, crP ws = (AZ, e) ∧ (e = 2 ∨ e = 1 ∨ e = 12 ∨ e = 5)) ∨
    (crP ws = (⟨createS, numU (ws.getD 0 []), numU (ws.getD 1 []), 0, ws.drop 2⟩, 0) ∧ 3 ≤ ws.length ∧ (1 ≤ numU (ws.getD 0 []) ∧ numU (ws.getD 0 []) ≤ 256) ∧ (0 ≤ numU (ws.getD 1 []) ∧ numU (ws.getD 1 []) ≤ 64) ∧ (ws.drop 2).all rightB = true ∧ (ws.drop 2).length ≤ 8) := by
  unfold crP
  by_cases h1 : ws.length < 3 ∨ numU (ws.getD 0 []) < 0 ∨ numU (ws.getD 1 []) < 0
  · rw [if_pos h1]; exact .inl ⟨2, rfl, .inl rfl⟩
  rw [if_neg h1]
  by_cases h2 : ¬ (1 ≤ numU (ws.getD 0 []) ∧ numU (ws.getD 0 []) ≤ 256) ∨ ¬ (0 ≤ numU (ws.getD 1 []) ∧ numU (ws.getD 1 []) ≤ 64)
  · rw [if_pos h2]; exact .inl ⟨1, rfl, .inr (.inl rfl)⟩
  rw [if_neg h2]
  by_cases h3 : (ws.drop 2).all rightB = false
  · rw [if_pos h3]; exact .inl ⟨12, rfl, .inr (.inr (.inl rfl))⟩
  rw [if_neg h3]
  by_cases h4 : 8 < (ws.drop 2).length
  · rw [if_pos h4]; exact .inl ⟨5, rfl, .inr (.inr (.inr rfl))⟩
  rw [if_neg h4]
  refine .inr ⟨rfl, by omega, ?_, ?_, by simpa using h3, by omega⟩
  · exact Classical.byContradiction fun hx => h2 (.inl hx)
  · exact Classical.byContradiction fun hx => h2 (.inr hx)
theorem exP_cases (ws : List (List UInt8)) : (∃ e, exP ws = (AZ, e) ∧ (e = 2 ∨ e = 1)) ∨
    (exP ws = (⟨extendS, 0, numU (ws.getD 1 []), numU (ws.getD 0 []), []⟩, 0) ∧ ws.length = 2 ∧ ¬ numU (ws.getD 0 []) < 0 ∧ (1 ≤ numU (ws.getD 1 []) ∧ numU (ws.getD 1 []) ≤ 64)) := by
  unfold exP
  by_cases h1 : ws.length ≠ 2 ∨ numU (ws.getD 0 []) < 0 ∨ numU (ws.getD 1 []) < 0
  · rw [if_pos h1]; exact .inl ⟨2, rfl, .inl rfl⟩
  rw [if_neg h1]
  by_cases h2 : ¬ (1 ≤ numU (ws.getD 1 []) ∧ numU (ws.getD 1 []) ≤ 64)
  · rw [if_pos h2]; exact .inl ⟨1, rfl, .inr rfl⟩
  rw [if_neg h2]
  exact .inr ⟨rfl, by omega, fun hx => h1 (.inr (.inl hx)), Classical.byContradiction fun hx => h2 hx⟩
theorem single_ne {w : List UInt8} (h : single w) : w ≠ createS ∧ w ≠ extendS := by
  rcases h with rfl | rfl | rfl <;> decide
theorem parsP_at {l p0 : List UInt8} {rest : List (List UInt8)} (hp : parts 32 l = p0 :: rest) : parsP l =
    if 1000 < l.length then (AZ, 3) else if ([] : List UInt8) ∈ p0 :: rest then (AZ, 2) else if p0 = createS then crP rest else if p0 = extendS then exP rest
      else if single p0 ∧ (p0 :: rest).length = 1 then (⟨p0, 0, 0, 0, []⟩, 0) else (AZ, 2) := by
  unfold parsP; rw [hp]; rfl
/-- a line is refused, or what it says may be said, and has just that line -/
theorem parsP_cases (l : List UInt8) : (∃ e, parsP l = (AZ, e) ∧ (e = 3 ∧ 1000 < l.length ∨ l.length ≤ 1000 ∧ (e = 2 ∨ e = 1 ∨ e = 12 ∨ e = 5))) ∨
    (∃ a, parsP l = (a, 0) ∧ okA a ∧ textP a = l ∧ l.length ≤ 1000) := by
  obtain ⟨p0, rest, hp⟩ : ∃ p0 rest, parts 32 l = p0 :: rest := by
    cases hp : parts 32 l with
    | nil => exact absurd hp (parts_ne 32 l)
    | cons p q => exact ⟨p, q, rfl⟩
  rw [parsP_at hp]
  by_cases h1 : 1000 < l.length
  · rw [if_pos h1]; exact .inl ⟨3, rfl, .inl ⟨rfl, h1⟩⟩
  rw [if_neg h1]
  have hl : l.length ≤ 1000 := by omega
  by_cases h2 : ([] : List UInt8) ∈ p0 :: rest
  · rw [if_pos h2]; exact .inl ⟨2, rfl, .inr ⟨hl, .inl rfl⟩⟩
  rw [if_neg h2]
  have hj := join_parts 32 l
  rw [hp] at hj
  · by_cases hc : p0 = createS
    · rw [if_pos hc]
      rcases crP_cases rest with ⟨e, he, hx⟩ | ⟨he, h3, ha, hb, hr, h8⟩
      · exact .inl ⟨e, he, .inr ⟨hl, hx⟩⟩
      · refine .inr ⟨_, he, .inl ⟨rfl, ha, hb, rfl, ⟨by simp only [List.length_drop]; omega, h8⟩, hr⟩, ?_, hl⟩
        have e1 := numU_text (l := rest.getD 0 []) (by omega)
        have e2 := numU_text (l := rest.getD 1 []) (by omega)
        have e3 := getD_drop rest (by omega)
        unfold textP wordsP
        rw [if_pos rfl]
        simp only
        rw [itoa_of (by omega), itoa_of (by omega), e1, e2]
        rw [show [createS, rest.getD 0 [], rest.getD 1 []] ++ rest.drop 2 = createS :: (rest.getD 0 [] :: rest.getD 1 [] :: rest.drop 2) from rfl, ← e3, ← hc]
        exact hj
    · rw [if_neg hc]
      by_cases hx : p0 = extendS
      · rw [if_pos hx]
        rcases exP_cases rest with ⟨e, he, hx'⟩ | ⟨he, h3, ha, hb⟩
        · exact .inl ⟨e, he, .inr ⟨hl, by rcases hx' with h | h <;> simp [h]⟩⟩
        · have hle := numU_le (rest.getD 0 [])
          refine .inr ⟨_, he, .inr (.inl ⟨rfl, rfl, hb, ⟨by show 0 ≤ numU _; omega, hle.2⟩, rfl⟩), ?_, hl⟩
          have e1 := numU_text (l := rest.getD 0 []) ha
          have e2 := numU_text (l := rest.getD 1 []) (by omega)
          have e3 := getD_drop rest (by omega)
          have e4 : rest.drop 2 = [] := List.drop_eq_nil_of_le (by omega)
          rw [e4] at e3
          unfold textP wordsP
          rw [if_neg (show ¬ extendS = createS by decide), if_pos rfl]
          simp only
          rw [itoa_of (by omega), e1, e2, ← hx]
          conv at hj => lhs; rw [e3]
          exact hj
      · rw [if_neg hx]
        by_cases hs : single p0 ∧ (p0 :: rest).length = 1
        · rw [if_pos hs]
          refine .inr ⟨_, rfl, .inr (.inr ⟨hs.1, rfl, rfl, rfl, rfl⟩), ?_, hl⟩
          have h0 : rest = [] := List.eq_nil_of_length_eq_zero (by have := hs.2; simp at this; simpa using this)
          subst h0
          unfold textP wordsP
          rw [if_neg hc, if_neg hx]
          exact hj
        · rw [if_neg hs]; exact .inl ⟨2, rfl, .inr ⟨hl, .inl rfl⟩⟩
theorem sameB_self (a : AR) : sameB a a = true := by simp [sameB]
theorem sameB_eq {a b : AR} (h : sameB a b = true) : a = b := by
  have := of_decide_eq_true h
  obtain ⟨h1, h2, h3, h4, h5⟩ := this
  cases a; cases b; simp_all
theorem plain_no32 {w : List UInt8} (h : w.all plainB = true) : (32 : UInt8) ∉ w := by
  intro hm
  have := List.all_eq_true.1 h _ hm
  revert this; decide
theorem right_no32 {w : List UInt8} (h : rightB w = true) : (32 : UInt8) ∉ w ∧ w ≠ [] ∧ w.length ≤ 40 := by
  have hr := h
  unfold rightB at h
  simp only [Bool.and_eq_true, decide_eq_true_eq] at h
  obtain ⟨⟨⟨⟨h1, h2⟩, _⟩, _⟩, _⟩ := h
  refine ⟨?_, ?_, h2⟩
  · intro hm
    have hj := join_parts 47 w
    have key : ∀ ps : List (List UInt8), ps.all partB = true → (32 : UInt8) ∉ Lib.join ps [47] := by
      intro ps
      induction ps with
      | nil => intro _; simp [Lib.join, List.intercalate]
      | cons p ps ih =>
        intro hall
        rw [List.all_cons, Bool.and_eq_true] at hall
        have hpp : p.all plainB = true := by
          have := hall.1; unfold partB at this; simp only [Bool.and_eq_true] at this; exact this.1.1.1
        cases ps with
        | nil => rw [Lib.join_one]; exact plain_no32 hpp
        | cons q qs =>
          rw [join_cons2]
          intro hx
          rcases List.mem_append.1 hx with hx | hx
          · exact plain_no32 hpp hx
          · rcases List.mem_cons.1 hx with hx | hx
            · exact absurd hx (by decide)
            · exact ih hall.2 hx
    rw [← hj] at hm
    exact key _ h1 hm
  · intro h0; subst h0; exact absurd hr (by decide)
theorem dec_no32 (u : Nat) : (32 : UInt8) ∉ Lib.decDigits u := by
  intro hm; have := digit_in _ hm; revert this; decide
theorem join_len (c : UInt8) (M : Nat) : ∀ ws : List (List UInt8), (∀ w ∈ ws, w.length ≤ M) → (Lib.join ws [c]).length ≤ ws.length * (M + 1)
  | [], _ => by simp [Lib.join, List.intercalate]
  | [x], h => by rw [Lib.join_one]; have := h x (by simp); simp; omega
  | x :: y :: r, h => by
    have ih := join_len c M (y :: r) (fun w hw => h w (by simp [hw]))
    have hx := h x (by simp)
    rw [join_cons2, List.length_append, List.length_cons, List.length_cons, Nat.add_mul]
    simp only [List.length_cons] at ih ⊢
    omega
theorem dec_len3 (u : Nat) (h : u < 1000) : (Lib.decDigits u).length ≤ 3 := by rw [dec_d3 u h]; exact d3_len u
theorem dec_len20 (u : Nat) (h : u ≤ 4294967295) : (Lib.decDigits u).length ≤ 20 := by
  rw [Lib.decDigits_length]
  by_cases h1 : 1 ≤ u
  · exact nd_le h1 (by omega)
  · obtain rfl : u = 0 := by omega
    rw [Lib.nDigits_small (by decide)]; decide
/-- what may be said is read as it is meant -/
theorem parsP_text {a : AR} (h : okA a) : parsP (textP a) = (a, 0) := by
  rcases h with ⟨hv, hs, hc, hf, hn, hr⟩ | ⟨hv, hs, hc, hf, hn⟩ | ⟨hv, hs, hc, hf, hn⟩
  · obtain ⟨verb, sl, cn, fr, names⟩ := a
    simp only at hv hs hc hf hn hr
    subst hv hf
    obtain ⟨s, rfl⟩ : ∃ s : Nat, sl = s := ⟨sl.toNat, by omega⟩
    obtain ⟨n, rfl⟩ : ∃ n : Nat, cn = n := ⟨cn.toNat, by omega⟩
    have hw : wordsP ⟨createS, s, n, 0, names⟩ = createS :: Lib.decDigits s :: Lib.decDigits n :: names := by
      unfold wordsP
      rw [if_pos rfl, itoa_of (by simp), itoa_of (by simp)]
      simp
    have hno : ∀ w ∈ wordsP ⟨createS, s, n, 0, names⟩, (32 : UInt8) ∉ w ∧ w ≠ [] ∧ w.length ≤ 40 := by
      intro w hm
      rw [hw] at hm
      simp only [List.mem_cons] at hm
      rcases hm with rfl | rfl | rfl | hm
      · decide
      · exact ⟨dec_no32 s, dec_ne s, by have := dec_len3 s (by omega); omega⟩
      · exact ⟨dec_no32 n, dec_ne n, by have := dec_len3 n (by omega); omega⟩
      · exact right_no32 (List.all_eq_true.1 hr w hm)
    have hp : parts 32 (textP ⟨createS, s, n, 0, names⟩) = wordsP ⟨createS, s, n, 0, names⟩ := parts_join 32 _ (by rw [hw]; simp) (fun w hm => (hno w hm).1)
    have hlen : (textP ⟨createS, s, n, 0, names⟩).length ≤ 1000 := by
      have h1 := join_len 32 40 (wordsP ⟨createS, s, n, 0, names⟩) (fun w hm => (hno w hm).2.2)
      have h2 : (wordsP ⟨createS, s, n, 0, names⟩).length ≤ 11 := by rw [hw]; simp; omega
      have h3 : (wordsP ⟨createS, s, n, 0, names⟩).length * (40 + 1) ≤ 11 * 41 := Nat.mul_le_mul_right _ h2
      unfold textP
      omega
    rw [parsP_at (hp.trans hw), if_neg (by omega), ← hw, if_neg (fun hm => (hno _ hm).2.1 rfl), if_pos rfl]
    unfold crP
    have e1 := numU_dec s (by omega)
    have e2 := numU_dec n (by omega)
    simp only [List.getD_cons_zero, List.getD_cons_succ, e1, e2, List.length_cons, List.drop_succ_cons, List.drop_zero]
    rw [if_neg (by omega), if_neg (by omega), if_neg (by rw [hr]; decide), if_neg (by omega)]
  · obtain ⟨verb, sl, cn, fr, names⟩ := a
    simp only at hv hs hc hf hn
    subst hv hs hn
    obtain ⟨s, rfl⟩ : ∃ s : Nat, fr = s := ⟨fr.toNat, by omega⟩
    obtain ⟨n, rfl⟩ : ∃ n : Nat, cn = n := ⟨cn.toNat, by omega⟩
    have hw : wordsP ⟨extendS, 0, n, s, []⟩ = [extendS, Lib.decDigits s, Lib.decDigits n] := by
      unfold wordsP
      rw [if_neg (show ¬ extendS = createS by decide), if_pos rfl, itoa_of (by simp)]
      simp
    have hno : ∀ w ∈ wordsP ⟨extendS, 0, n, s, []⟩, (32 : UInt8) ∉ w ∧ w ≠ [] ∧ w.length ≤ 40 := by
      intro w hm
      rw [hw] at hm
      simp only [List.mem_cons, List.not_mem_nil, or_false] at hm
      rcases hm with rfl | rfl | rfl
      · decide
      · exact ⟨dec_no32 s, dec_ne s, by have := dec_len20 s (by omega); omega⟩
      · exact ⟨dec_no32 n, dec_ne n, by have := dec_len3 n (by omega); omega⟩
    have hp : parts 32 (textP ⟨extendS, 0, n, s, []⟩) = wordsP ⟨extendS, 0, n, s, []⟩ := parts_join 32 _ (by rw [hw]; simp) (fun w hm => (hno w hm).1)
    have hlen : (textP ⟨extendS, 0, n, s, []⟩).length ≤ 1000 := by
      have h1 := join_len 32 40 (wordsP ⟨extendS, 0, n, s, []⟩) (fun w hm => (hno w hm).2.2)
      have h2 : (wordsP ⟨extendS, 0, n, s, []⟩).length = 3 := by rw [hw]; rfl
      rw [h2] at h1
      unfold textP
      omega
    rw [parsP_at (hp.trans hw), if_neg (by omega), ← hw, if_neg (fun hm => (hno _ hm).2.1 rfl), if_neg (show ¬ extendS = createS by decide), if_pos rfl]
    unfold exP
    have e1 := numU_dec s (by omega)
    have e2 := numU_dec n (by omega)
    simp only [List.getD_cons_zero, List.getD_cons_succ, e1, e2, List.length_cons, List.length_nil]
    rw [if_neg (by omega), if_neg (by omega)]
  · obtain ⟨verb, sl, cn, fr, names⟩ := a
    simp only at hv hs hc hf hn
    subst hs hc hf hn
    obtain ⟨n1, n2⟩ := single_ne hv
    have hw : wordsP ⟨verb, 0, 0, 0, []⟩ = [verb] := by
      unfold wordsP; rw [if_neg n1, if_neg n2]
    have ht : textP ⟨verb, 0, 0, 0, []⟩ = verb := by unfold textP; rw [hw, Lib.join_one]
    have hno : (32 : UInt8) ∉ verb ∧ verb ≠ [] ∧ verb.length ≤ 40 := by rcases hv with rfl | rfl | rfl <;> decide
    rw [ht, parsP_at (parts_none hno.1), if_neg (by omega), if_neg (by simpa using hno.2.1), if_neg n1, if_neg n2, if_pos ⟨hv, rfl⟩]
theorem printP_ok {a : AR} (h : okA a) : printP a = (textP a, 0) := by
  unfold printP
  rw [parsP_text h, if_neg]
  simp [sameB_self]
theorem printP_bad {a : AR} (h : ¬ okA a) : printP a = ([], 1) := by
  unfold printP
  rw [if_pos]
  rcases parsP_cases (textP a) with ⟨e, he, hx⟩ | ⟨x, hx, ho, _⟩
  · refine .inl ?_
    rw [he]
    show e ≠ 0
    omega
  · rw [hx]
    cases hs : sameB x a with
    | true => exact absurd (sameB_eq hs ▸ ho) h
    | false => exact .inr rfl
end Go.Proofs.YtoggdigclbcndaaDoor.E
