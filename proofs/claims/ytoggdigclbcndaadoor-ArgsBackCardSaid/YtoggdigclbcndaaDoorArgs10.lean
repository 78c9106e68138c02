/-
  The statement ArgsBack, walked.
-/
import Derived.Test.YtoggdigclbcndaaDoorArgs9
import Derived.Test.YtoggdigclbcndaaDoorPath5
set_option linter.unusedVariables false
set_option linter.unusedSimpArgs false
namespace Go.Proofs.YtoggdigclbcndaaDoor.E
open Go Go.Proofs Go.RowKit
set_option maxRecDepth 100000
theorem join_snoc (c : UInt8) (x : List UInt8) : ∀ ws : List (List UInt8), ws ≠ [] → Lib.join (ws ++ [x]) [c] = Lib.join ws [c] ++ c :: x
  | [], h => absurd rfl h
  | [y], _ => by rw [List.singleton_append, join_cons2, Lib.join_one, Lib.join_one]
  | y :: z :: r, _ => by
    have := join_snoc c x (z :: r) (by simp)
    rw [List.cons_append, List.cons_append, join_cons2, join_cons2, ← List.cons_append, this]; simp
theorem itoa_len {n : Int} (h : -9223372036854775808 ≤ n ∧ n ≤ 9223372036854775807) : (Lib.itoa n).length ≤ 21 := by
  unfold Lib.itoa
  have key : ∀ u : Nat, u < 18446744073709551616 → (Lib.decDigits u).length ≤ 20 := by
    intro u hu
    rw [Lib.decDigits_length]
    by_cases h1 : 1 ≤ u
    · exact nd_le h1 hu
    · obtain rfl : u = 0 := by omega
      rw [Lib.nDigits_small (by decide)]; decide
  split
  · have := key n.natAbs (by omega); simp; omega
  · have := key n.toNat (by omega); omega
theorem text_len {a : AR} (hr : InR a) (hv : a.verb.length ≤ 100) (hn : a.names.length ≤ 20) (hw : ∀ w ∈ a.names, w.length ≤ 100) : (textP a).length ≤ 1000000 := by
  obtain ⟨r1, r2, r3⟩ := hr
  have h1 := itoa_len r1
  have h2 := itoa_len r2
  have h3 := dec_len20 a.fr.toNat (by omega)
  have hall : (∀ w ∈ wordsP a, w.length ≤ 100) ∧ (wordsP a).length ≤ 23 := by
    unfold wordsP
    split
    · refine ⟨fun w hm => ?_, by simp; omega⟩
      rcases List.mem_append.1 hm with hm | hm
      · simp only [List.mem_cons, List.not_mem_nil, or_false] at hm
        rcases hm with rfl | rfl | rfl <;> omega
      · exact hw w hm
    · split
      · refine ⟨fun w hm => ?_, by simp⟩
        simp only [List.mem_cons, List.not_mem_nil, or_false] at hm
        rcases hm with rfl | rfl | rfl <;> omega
      · refine ⟨fun w hm => ?_, by simp⟩
        simp only [List.mem_cons, List.not_mem_nil, or_false] at hm
        subst hm; omega
  have h4 := join_len 32 100 (wordsP a) hall.1
  have h5 : (wordsP a).length * (100 + 1) ≤ 23 * 101 := Nat.mul_le_mul_right _ hall.2
  unfold textP
  omega
theorem names_of (l : List UInt8) : (parsP l).1.names.length ≤ 8 := by
  rcases parsP_cases l with ⟨e, he, _⟩ | ⟨a, ha, ho, _⟩
  · rw [he]; exact Nat.zero_le _
  · rw [ha]; exact (okA_in ho).2
theorem okA_create {a : AR} (hv : a.verb = createS) : okA a ↔ ((1 ≤ a.sl ∧ a.sl ≤ 256) ∧ (0 ≤ a.cn ∧ a.cn ≤ 64) ∧ a.fr = 0 ∧ (1 ≤ a.names.length ∧ a.names.length ≤ 8)) ∧ a.names.all rightB = true := by
  constructor
  · rintro (⟨_, h1, h2, h3, h4, h5⟩ | ⟨h, _⟩ | ⟨h, _⟩)
    · exact ⟨⟨h1, h2, h3, h4⟩, h5⟩
    · rw [hv] at h; exact absurd h (by decide)
    · rw [hv] at h; exact absurd h (by decide)
  · rintro ⟨⟨h1, h2, h3, h4⟩, h5⟩
    exact .inl ⟨hv, h1, h2, h3, h4, h5⟩
theorem okA_extend {a : AR} (hv : a.verb = extendS) (hr : InR a) : okA a ↔ a.sl = 0 ∧ (1 ≤ a.cn ∧ a.cn ≤ 64) ∧ a.names.length = 0 := by
  constructor
  · rintro (⟨h, _⟩ | ⟨_, h1, h2, h3, h4⟩ | ⟨h, _⟩)
    · rw [hv] at h; exact absurd h (by decide)
    · exact ⟨h1, h2, by rw [h4]; rfl⟩
    · rw [hv] at h; exact absurd h (by decide)
  · rintro ⟨h1, h2, h3⟩
    exact .inr (.inl ⟨hv, h1, h2, hr.fr, List.eq_nil_of_length_eq_zero h3⟩)
theorem okA_single {a : AR} (hv : single a.verb) : okA a ↔ a.sl = 0 ∧ a.cn = 0 ∧ a.fr = 0 ∧ a.names.length = 0 := by
  obtain ⟨n1, n2⟩ := single_ne hv
  constructor
  · rintro (⟨h, _⟩ | ⟨h, _⟩ | ⟨_, h1, h2, h3, h4⟩)
    · exact absurd h n1
    · exact absurd h n2
    · exact ⟨h1, h2, h3, by rw [h4]; rfl⟩
  · rintro ⟨h1, h2, h3, h4⟩
    exact .inr (.inr ⟨hv, h1, h2, h3, List.eq_nil_of_length_eq_zero h4⟩)
theorem okA_none {a : AR} (h1 : a.verb ≠ createS) (h2 : a.verb ≠ extendS) (h3 : ¬ single a.verb) : ¬ okA a := by
  rintro (⟨h, _⟩ | ⟨h, _⟩ | ⟨h, _⟩)
  · exact h1 h
  · exact h2 h
  · exact h3 h
theorem sign_c {u : Int} (h : 0 ≤ u ∧ u ≤ 4294967295) : IntKind.u64.wrap u = ((u.toNat : Nat) : Int) := by rw [IntKind.wrap_u64]; omega
set_option maxHeartbeats 8000000 in
theorem argsBack_c {p : Nat → Prop} (a : AR) (nv : Value) (h : Heap) (hV : Vars h) (hn : NamesAt p h nv a.names) (hr : InR a) (hvl : a.verb.length ≤ 9223372036854775807) (hnl : a.names.length ≤ 9223372036854775807) :
    Ret Tryd.prog 6 [.agg (ARv a nv).toArray] h (fun v h' => v = .bool true ∧ Ext h h') := by
  refine Ret.enter Tryd.func6 rfl Tryd.ntmps6 (by show 1 ≤ 219; decide) fun w0 => ?_
  have hn0 := hn
  obtain ⟨An, cn, rfl, hcn, hrn⟩ := hn
  obtain ⟨nv, hnv⟩ : ∃ nv, nv = Value.slice An a.names.length cn := ⟨_, rfl⟩
  refine run ?_
  refine L.do1 (D.bx (v := .agg (ARv a (.slice An a.names.length cn)).toArray) (cs := ARv a (.slice An a.names.length cn)) rfl rfl) ?_
  rintro _ h1 ⟨rfl, n1⟩
  have x1 := n1.ext
  have s1 := n1.size
  have hV1 := hV.ext x1
  have b1 : Blk h1 h.size (ARv a (.slice An a.names.length cn)) 32 := n1.at_
  refine run ?_
  refine L.c1 rfl (aawake_c h1 hV1) ?_
  rintro _ h2 ⟨rfl, x2⟩
  have hV2 := hV1.ext x2
  have b2 : Blk h2 h.size (ARv a (.slice An a.names.length cn)) 32 := x2.at b1
  have c2 : ∀ i, cellH h2 ⟨h.size, i, none⟩ = (ARv a (.slice An a.names.length cn))[i]? := fun i => Blk.cell b2 i
  have hN2 := (hn0.ext (x1.trans x2))
  have hR2 : RowP p h2 An (a.names.map S) := hrn.ext (x1.trans x2)
  refine run ?_
  refine L.gyes rfl rfl (V.load (v := S a.verb) rfl (c2 0)) ?_
  by_cases hv100 : 100 < a.verb.length
  · refine run ?_
    refine L.c1 rfl (aawake_c h2 hV2) ?_
    rintro _ h3 ⟨rfl, x3⟩
    refine run ?_
    exact ret1 rfl (by constructor) ⟨rfl, x1.trans (x2.trans x3)⟩
  refine run ?_
  refine L.gyes rfl rfl (V.load (v := .slice An a.names.length cn) rfl (c2 4)) ?_
  by_cases hn20 : 20 < a.names.length
  · refine run ?_
    refine L.c1 rfl (aawake_c h2 hV2) ?_
    rintro _ h3 ⟨rfl, x3⟩
    refine run ?_
    exact ret1 rfl (by constructor) ⟨rfl, x1.trans (x2.trans x3)⟩
  refine run ?_
  refine L.op (V.load (v := .slice An a.names.length cn) rfl (c2 4)) ?_
  refine run ?_
  refine C.loopv (fun k lv h' => ∃ i, i ≤ a.names.length ∧ k = a.names.length - i ∧ h' = h2 ∧ (∀ j (g1 : j < a.names.length), j < i → a.names[j].length ≤ 100) ∧
    lv = [(1, .pointer (some ⟨h.size, 0, none⟩)), (29, .int .i64 (a.names.length : Int)), (30, .int .i64 (i : Int))]) a.names.length _ ⟨0, by omega, by omega, rfl, fun j _ hj => by omega, rfl⟩ ⟨rfl, rfl, rfl, trivial⟩ ?_
  rintro k lv h' τ ⟨i, hi, rfl, rfl, hall, rfl⟩
  by_cases hlt : i < a.names.length
  · obtain ⟨aA, rfl, cA⟩ := strs_at hR2 hlt
    have cA' : cellH h' (aA.add ((i : Int).toNat * 1)) = some (S a.names[i]) := by simpa using cA
    refine run ?_
    refine L.op (V.load (v := .slice (some aA) a.names.length cn) rfl (c2 4)) ?_
    refine run ?_
    refine L.op (V.idx rfl rfl (by omega) (by omega)) ?_
    refine L.op (V.load (v := S a.names[i]) rfl cA') ?_
    by_cases h100 : 100 < a.names[i].length
    · refine run ?_
      exact ret1 rfl (by constructor) ⟨rfl, x1.trans x2⟩
    · refine run ?_
      refine ⟨_, _, by omega, ⟨i + 1, by omega, rfl, rfl, fun j g1 hji => ?_, rfl⟩, rfl, rfl, int_eq (by omega), trivial⟩
      by_cases hji' : j = i
      · subst hji'; omega
      · exact hall j g1 (by omega)
  have hw100 : ∀ w ∈ a.names, w.length ≤ 100 := by
    intro w hm
    obtain ⟨j, hj, rfl⟩ := List.mem_iff_getElem.1 hm
    exact hall j hj (by omega)
  have htl := text_len hr (by omega) (by omega) hw100
  clear hall
  refine run ?_
  refine L.cutv (fun lv hh => hh = h' ∧ lv = [(1, .pointer (some ⟨h.size, 0, none⟩)), (4, S a.verb), (5, .bool true)]) ?_ ?_
  · refine L.op (V.load (v := S a.verb) rfl (c2 0)) ?_
    refine run ?_
    exact ⟨_, ⟨rfl, rfl⟩, rfl, rfl, rfl, trivial⟩
  rintro lv hh τ2 ⟨rfl, rfl⟩
  refine C.cutv (fun lv h3 => ∃ W ok, Ext hh h3 ∧ (ok = true ↔ okA a) ∧ (ok = true → W = textP a) ∧ lv = [(1, .pointer (some ⟨h.size, 0, none⟩)), (4, S W), (5, .bool ok)]) ?_ ?_
  · refine run ?_
    refine L.op (V.load (v := S a.verb) rfl (c2 0)) ?_
    by_cases hc : a.verb = [99, 114, 101, 97, 116, 101]
    · have hk := okA_create (show a.verb = createS from hc)
      refine run ?_
      refine L.cutv (fun lv g => ∃ ok : Bool, g = hh ∧ (ok = true ↔ (1 ≤ a.sl ∧ a.sl ≤ 256) ∧ (0 ≤ a.cn ∧ a.cn ≤ 64) ∧ a.fr = 0 ∧ (1 ≤ a.names.length ∧ a.names.length ≤ 8)) ∧ lv = [(1, .pointer (some ⟨h.size, 0, none⟩)), (4, S a.verb), (5, .bool ok)]) ?_ ?_
      · refine L.op (V.load (v := .int .i64 a.sl) rfl (c2 1)) ?_
        by_cases e1 : 1 ≤ a.sl
        rotate_left
        · refine run ?_
          exact ⟨_, ⟨false, rfl, ⟨fun hf => (by cases hf), fun hx => absurd hx.1.1 e1⟩, rfl⟩, rfl, rfl, rfl, trivial⟩
        refine run ?_
        refine L.gyes rfl rfl (V.load (v := .int .i64 a.sl) rfl (c2 1)) ?_
        by_cases e2 : a.sl ≤ 256
        rotate_left
        · refine run ?_
          exact ⟨_, ⟨false, rfl, ⟨fun hf => (by cases hf), fun hx => absurd hx.1.2 e2⟩, rfl⟩, rfl, rfl, rfl, trivial⟩
        refine run ?_
        refine L.gyes rfl rfl (V.load (v := .int .i64 a.cn) rfl (c2 2)) ?_
        by_cases e3 : 0 ≤ a.cn
        rotate_left
        · refine run ?_
          exact ⟨_, ⟨false, rfl, ⟨fun hf => (by cases hf), fun hx => absurd hx.2.1.1 e3⟩, rfl⟩, rfl, rfl, rfl, trivial⟩
        refine run ?_
        refine L.gyes rfl rfl (V.load (v := .int .i64 a.cn) rfl (c2 2)) ?_
        by_cases e4 : a.cn ≤ 64
        rotate_left
        · refine run ?_
          exact ⟨_, ⟨false, rfl, ⟨fun hf => (by cases hf), fun hx => absurd hx.2.1.2 e4⟩, rfl⟩, rfl, rfl, rfl, trivial⟩
        refine run ?_
        refine L.gyes rfl rfl (V.load (v := .int .u32 a.fr) rfl (c2 3)) ?_
        by_cases e5 : a.fr = 0
        rotate_left
        · refine run ?_
          exact ⟨_, ⟨false, rfl, ⟨fun hf => (by cases hf), fun hx => absurd hx.2.2.1 e5⟩, rfl⟩, rfl, rfl, rfl, trivial⟩
        refine run ?_
        refine L.gyes rfl rfl (V.load (v := .slice An a.names.length cn) rfl (c2 4)) ?_
        by_cases e6 : 1 ≤ a.names.length
        rotate_left
        · refine run ?_
          exact ⟨_, ⟨false, rfl, ⟨fun hf => (by cases hf), fun hx => absurd hx.2.2.2.1 e6⟩, rfl⟩, rfl, rfl, rfl, trivial⟩
        refine run ?_
        refine L.gyes rfl rfl (V.load (v := .slice An a.names.length cn) rfl (c2 4)) ?_
        by_cases e7 : a.names.length ≤ 8
        rotate_left
        · refine run ?_
          exact ⟨_, ⟨false, rfl, ⟨fun hf => (by cases hf), fun hx => absurd hx.2.2.2.2 e7⟩, rfl⟩, rfl, rfl, rfl, trivial⟩
        refine run ?_
        exact ⟨_, ⟨true, rfl, ⟨fun _ => ⟨⟨e1, e2⟩, ⟨e3, e4⟩, e5, e6, e7⟩, fun _ => rfl⟩, rfl⟩, rfl, rfl, rfl, trivial⟩
      rintro lv g τ3 ⟨ok0, rfl, hok0, rfl⟩
      generalize ((1 ≤ a.sl ∧ a.sl ≤ 256) ∧ (0 ≤ a.cn ∧ a.cn ≤ 64) ∧ a.fr = 0 ∧ (1 ≤ a.names.length ∧ a.names.length ≤ 8)) = B1 at *
      refine run ?_
      refine L.op (V.load (v := .slice An a.names.length cn) rfl (c2 4)) ?_
      refine run ?_
      refine C.loopv (fun k lv h' => ∃ (i : Nat) (ok : Bool), i ≤ a.names.length ∧ k = a.names.length - i ∧ h' = g ∧ (ok = true ↔ B1 ∧ ∀ j (hj : j < a.names.length), j < i → rightB a.names[j] = true) ∧
        lv = [(1, .pointer (some ⟨h.size, 0, none⟩)), (4, S a.verb), (5, .bool ok), (84, .int .i64 (a.names.length : Int)), (85, .int .i64 (i : Int))]) a.names.length _ ⟨0, ok0, by omega, by omega, rfl, ⟨fun hx => ⟨hok0.1 hx, fun j _ hj => by omega⟩, fun hx => hok0.2 hx.1⟩, rfl⟩ ⟨rfl, rfl, rfl, rfl, rfl, trivial⟩ ?_
      rintro k lv h' τ4 ⟨i, ok, hi, rfl, rfl, hok, rfl⟩
      by_cases hlt : i < a.names.length
      · obtain ⟨aA, rfl, cA⟩ := strs_at hR2 hlt
        have cA' : cellH h' (aA.add ((i : Int).toNat * 1)) = some (S a.names[i]) := by simpa using cA
        cases ok with
        | false =>
          refine run ?_
          refine ⟨_, _, by omega, ⟨i + 1, false, by omega, rfl, rfl, ⟨fun hf => (by cases hf), fun hx => ?_⟩, rfl⟩, rfl, rfl, rfl, rfl, int_eq (by omega), trivial⟩
          exact hok.2 ⟨hx.1, fun j hj hji => hx.2 j hj (by omega)⟩
        | true =>
          have hpre := hok.1 rfl
          refine run ?_
          refine L.gyes rfl rfl (V.load (v := .slice (some aA) a.names.length cn) rfl (c2 4)) ?_
          refine run ?_
          refine L.gyes rfl rfl (V.idx rfl rfl (by omega) (by omega)) ?_
          refine L.gyes rfl rfl (V.load (v := S a.names[i]) rfl cA') ?_
          refine L.cqg rfl rfl rfl (rpath_c a.names[i] h' (by have := hw100 _ (List.getElem_mem hlt); omega)) ?_
          cases hp : rightB a.names[i] with
          | true =>
            refine run ?_
            refine ⟨_, _, by omega, ⟨i + 1, true, by omega, rfl, rfl, ⟨fun _ => ⟨hpre.1, fun j hj hji => ?_⟩, fun _ => rfl⟩, rfl⟩, rfl, rfl, rfl, rfl, int_eq (by omega), trivial⟩
            by_cases hji' : j = i
            · subst hji'; exact hp
            · exact hpre.2 j hj (by omega)
          | false =>
            refine run ?_
            refine ⟨_, _, by omega, ⟨i + 1, false, by omega, rfl, rfl, ⟨fun hf => (by cases hf), fun hx => ?_⟩, rfl⟩, rfl, rfl, rfl, rfl, int_eq (by omega), trivial⟩
            have := hx.2 i hlt (by omega)
            rw [hp] at this; cases this
      have hall : (B1 ∧ ∀ j (hj : j < a.names.length), j < i → rightB a.names[j] = true) ↔ okA a := by
        rw [hk]
        constructor
        · rintro ⟨h1, h2⟩
          refine ⟨h1, List.all_eq_true.2 fun w hm => ?_⟩
          obtain ⟨j, hj, rfl⟩ := List.mem_iff_getElem.1 hm
          exact h2 j hj (by omega)
        · rintro ⟨h1, h2⟩
          exact ⟨h1, fun j hj _ => List.all_eq_true.1 h2 _ (List.getElem_mem hj)⟩
      rw [hall] at hok
      cases ok with
      | false =>
        refine run ?_
        exact ⟨_, ⟨a.verb, false, Mods.refl _ _, hok, fun hf => (by cases hf), rfl⟩, rfl, rfl, rfl, trivial⟩
      | true =>
        have ho : okA a := hok.1 rfl
        obtain ⟨hin, hn8⟩ := okA_in ho
        have hb : (1 ≤ a.sl ∧ a.sl ≤ 256) ∧ (0 ≤ a.cn ∧ a.cn ≤ 64) := by
          rcases ho with ⟨_, q1, q2, _⟩ | ⟨q, _⟩ | ⟨q, _⟩
          · exact ⟨q1, q2⟩
          · rw [show a.verb = createS from hc] at q; exact absurd q (by decide)
          · rw [show a.verb = createS from hc] at q; exact absurd q (by decide)
        obtain ⟨s, hs⟩ : ∃ s : Nat, a.sl = (s : Int) := ⟨a.sl.toNat, by omega⟩
        obtain ⟨n, hcnn⟩ : ∃ n : Nat, a.cn = (n : Int) := ⟨a.cn.toNat, by omega⟩
        have l1 := dec_len20 s (by omega)
        have l2 := dec_len20 n (by omega)
        have hws : wordsP a = [a.verb, Lib.decDigits s, Lib.decDigits n] ++ a.names := by
          unfold wordsP
          rw [if_pos (show a.verb = createS from hc), hs, hcnn, itoa_of (by omega), itoa_of (by omega)]; simp
        have hpre : Lib.join [a.verb, Lib.decDigits s, Lib.decDigits n] [32] = a.verb ++ [32] ++ Lib.decDigits s ++ [32] ++ Lib.decDigits n := by
          rw [join_cons2, join_cons2, Lib.join_one]; simp
        have w1 : IntKind.u64.wrap (s : Int) = (s : Int) := by rw [IntKind.wrap_u64]; omega
        have w2 : IntKind.u64.wrap (n : Int) = (n : Int) := by rw [IntKind.wrap_u64]; omega
        refine run ?_
        refine C.mix (fun g => Ext h' g) (fun i => i == 5 || i == 11) mixed (by kernel_rfl) (Mods.refl _ _) ?_
        refine run ?_
        refine M.op (fun g hG => V.catS (a := a.verb) (b := [32]) rfl rfl (by simp; omega)) ?_
        refine run ?_
        refine M.op (fun g hG => V.load (v := .int .i64 (s : Int)) rfl (by rw [← hs]; exact hG.cell (c2 1))) ?_
        refine M.op (fun g hG => V.conv rfl) ?_
        rw [w1]
        refine M.c1 rfl rfl (ldigits_c s h' (by omega)) ?_
        rintro _ g1 ⟨rfl, y1⟩
        refine ⟨y1, ?_⟩
        refine M.op (fun g hG => V.catS (a := a.verb ++ [32]) (b := Lib.decDigits s) rfl rfl (by simp; omega)) ?_
        refine M.op (fun g hG => V.catS (a := a.verb ++ [32] ++ Lib.decDigits s) (b := [32]) rfl rfl (by simp; omega)) ?_
        refine run ?_
        refine M.op (fun g hG => V.load (v := .int .i64 (n : Int)) rfl (by rw [← hcnn]; exact hG.cell (c2 2))) ?_
        refine M.op (fun g hG => V.conv rfl) ?_
        rw [w2]
        refine M.c1 rfl rfl (ldigits_c n g1 (by omega)) ?_
        rintro _ g2 ⟨rfl, y2⟩
        have y : Ext h' g2 := y1.trans y2
        refine ⟨y, ?_⟩
        refine M.op (fun g hG => V.catS (a := a.verb ++ [32] ++ Lib.decDigits s ++ [32]) (b := Lib.decDigits n) rfl rfl (by simp; omega)) ?_
        rw [← hpre]
        refine run ?_
        have c3 : ∀ i, cellH g2 ⟨h.size, i, none⟩ = (ARv a (.slice An a.names.length cn))[i]? := fun i => Blk.cell (y.at b2) i
        refine L.op (V.load (v := .slice An a.names.length cn) rfl (c3 4)) ?_
        refine run ?_
        have hR3 := hR2.ext y
        refine C.loopv (fun k lv hq => ∃ (i : Nat), i ≤ a.names.length ∧ k = a.names.length - i ∧ hq = g2 ∧
          lv = [(1, .pointer (some ⟨h.size, 0, none⟩)), (4, S (Lib.join ([a.verb, Lib.decDigits s, Lib.decDigits n] ++ a.names.take i) [32])), (5, .bool true), (114, .int .i64 (a.names.length : Int)), (115, .int .i64 (i : Int))]) a.names.length [(1, .pointer (some ⟨h.size, 0, none⟩)), (4, S (Lib.join ([a.verb, Lib.decDigits s, Lib.decDigits n] ++ a.names.take 0) [32])), (5, .bool true), (114, .int .i64 (a.names.length : Int)), (115, .int .i64 ((0 : Nat) : Int))] ⟨0, by omega, by omega, rfl, rfl⟩ ⟨rfl, by rw [List.take_zero, List.append_nil]; rfl, rfl, rfl, rfl, trivial⟩ ?_
        rintro k lv hq τ5 ⟨i, hi, rfl, rfl, rfl⟩
        by_cases hlt : i < a.names.length
        · obtain ⟨aA, rfl, cA⟩ := strs_at hR3 hlt
          have cA' : cellH hq (aA.add ((i : Int).toNat * 1)) = some (S a.names[i]) := by simpa using cA
          have hjl : (Lib.join ([a.verb, Lib.decDigits s, Lib.decDigits n] ++ a.names.take i) [32]).length ≤ 23 * 101 := by
            refine Nat.le_trans (join_len 32 100 _ (fun w hm => ?_)) (Nat.mul_le_mul_right _ (by simp; omega))
            rcases List.mem_append.1 hm with hm | hm
            · simp only [List.mem_cons, List.not_mem_nil, or_false] at hm
              rcases hm with rfl | rfl | rfl <;> omega
            · exact hw100 w (List.mem_of_mem_take hm)
          have hli := hw100 _ (List.getElem_mem hlt)
          obtain ⟨W, hW⟩ : ∃ W, W = Lib.join ([a.verb, Lib.decDigits s, Lib.decDigits n] ++ a.names.take i) [32] := ⟨_, rfl⟩
          have hnext : W ++ [32] ++ a.names[i] = Lib.join ([a.verb, Lib.decDigits s, Lib.decDigits n] ++ a.names.take (i + 1)) [32] := by
            rw [List.take_succ_eq_append_getElem hlt, ← List.append_assoc, join_snoc _ _ _ (by simp), ← hW]; simp
          rw [← hW] at hjl ⊢
          refine run ?_
          refine L.op (V.catS (a := W) (b := [32]) rfl rfl (by simp; omega)) ?_
          refine run ?_
          refine L.op (V.load (v := .slice (some aA) a.names.length cn) rfl (c3 4)) ?_
          refine run ?_
          refine L.op (V.idx rfl rfl (by omega) (by omega)) ?_
          refine L.op (V.load (v := S a.names[i]) rfl cA') ?_
          refine L.op (V.catS (a := W ++ [32]) (b := a.names[i]) rfl rfl (by simp; omega)) ?_
          rw [hnext]
          refine run ?_
          exact ⟨_, _, by omega, ⟨i + 1, by omega, rfl, rfl, rfl⟩, rfl, rfl, rfl, rfl, int_eq (by omega), trivial⟩
        · have hend : Lib.join ([a.verb, Lib.decDigits s, Lib.decDigits n] ++ a.names.take i) [32] = textP a := by
            rw [List.take_of_length_le (by omega), ← hws]; rfl
          rw [hend]
          refine run ?_
          exact ⟨_, ⟨_, true, y, hok, fun _ => rfl, rfl⟩, rfl, rfl, rfl, trivial⟩
    by_cases hx : a.verb = [101, 120, 116, 101, 110, 100]
    · have hk := okA_extend (show a.verb = extendS from hx) hr
      refine run ?_
      refine L.op (V.load (v := .int .i64 a.sl) rfl (c2 1)) ?_
      by_cases e1 : a.sl = 0
      rotate_left
      · refine run ?_
        exact ⟨_, ⟨a.verb, false, Mods.refl _ _, ⟨fun hf => (by cases hf), fun ho => absurd (hk.1 ho).1 e1⟩, fun hf => (by cases hf), rfl⟩, rfl, rfl, rfl, trivial⟩
      refine run ?_
      refine L.gyes rfl rfl (V.load (v := .int .i64 a.cn) rfl (c2 2)) ?_
      by_cases e2 : 1 ≤ a.cn
      rotate_left
      · refine run ?_
        exact ⟨_, ⟨a.verb, false, Mods.refl _ _, ⟨fun hf => (by cases hf), fun ho => absurd (hk.1 ho).2.1.1 e2⟩, fun hf => (by cases hf), rfl⟩, rfl, rfl, rfl, trivial⟩
      refine run ?_
      refine L.gyes rfl rfl (V.load (v := .int .i64 a.cn) rfl (c2 2)) ?_
      by_cases e3 : a.cn ≤ 64
      rotate_left
      · refine run ?_
        exact ⟨_, ⟨a.verb, false, Mods.refl _ _, ⟨fun hf => (by cases hf), fun ho => absurd (hk.1 ho).2.1.2 e3⟩, fun hf => (by cases hf), rfl⟩, rfl, rfl, rfl, trivial⟩
      refine run ?_
      refine L.gyes rfl rfl (V.load (v := .slice An a.names.length cn) rfl (c2 4)) ?_
      by_cases e4 : a.names.length = 0
      rotate_left
      · refine run ?_
        exact ⟨_, ⟨a.verb, false, Mods.refl _ _, ⟨fun hf => (by cases hf), fun ho => absurd (hk.1 ho).2.2 e4⟩, fun hf => (by cases hf), rfl⟩, rfl, rfl, rfl, trivial⟩
      obtain ⟨fr, hfr⟩ : ∃ fr : Nat, a.fr = (fr : Int) := ⟨a.fr.toNat, by have := hr.fr; omega⟩
      obtain ⟨n, hcnn⟩ : ∃ n : Nat, a.cn = (n : Int) := ⟨a.cn.toNat, by omega⟩
      have hfr2 := hr.fr
      have l1 := dec_len20 fr (by omega)
      have l2 := dec_len20 n (by omega)
      have htx : textP a = a.verb ++ [32] ++ Lib.decDigits fr ++ [32] ++ Lib.decDigits n := by
        have : wordsP a = [a.verb, Lib.decDigits fr, Lib.decDigits n] := by
          unfold wordsP
          rw [if_neg (show ¬ a.verb = createS from hc), if_pos (show a.verb = extendS from hx), hfr, hcnn, itoa_of (by omega)]; simp
        unfold textP; rw [this, join_cons2, join_cons2, Lib.join_one]; simp
      have w1 : IntKind.u64.wrap (fr : Int) = (fr : Int) := by rw [IntKind.wrap_u64]; omega
      have w2 : IntKind.u64.wrap (n : Int) = (n : Int) := by rw [IntKind.wrap_u64]; omega
      refine run ?_
      refine C.mix (fun g => Ext hh g) (fun i => i == 5 || i == 11) mixed (by kernel_rfl) (Mods.refl _ _) ?_
      refine run ?_
      refine M.op (fun g hG => V.catS (a := a.verb) (b := [32]) rfl rfl (by simp; omega)) ?_
      refine run ?_
      refine M.op (fun g hG => V.load (v := .int .u32 (fr : Int)) rfl (by rw [← hfr]; exact hG.cell (c2 3))) ?_
      refine M.op (fun g hG => V.conv rfl) ?_
      rw [w1]
      refine M.c1 rfl rfl (ldigits_c fr hh (by omega)) ?_
      rintro _ g1 ⟨rfl, y1⟩
      refine ⟨y1, ?_⟩
      refine M.op (fun g hG => V.catS (a := a.verb ++ [32]) (b := Lib.decDigits fr) rfl rfl (by simp; omega)) ?_
      refine M.op (fun g hG => V.catS (a := a.verb ++ [32] ++ Lib.decDigits fr) (b := [32]) rfl rfl (by simp; omega)) ?_
      refine run ?_
      refine M.op (fun g hG => V.load (v := .int .i64 (n : Int)) rfl (by rw [← hcnn]; exact hG.cell (c2 2))) ?_
      refine M.op (fun g hG => V.conv rfl) ?_
      rw [w2]
      refine M.c1 rfl rfl (ldigits_c n g1 (by omega)) ?_
      rintro _ g2 ⟨rfl, y2⟩
      refine ⟨y1.trans y2, ?_⟩
      refine M.op (fun g hG => V.catS (a := a.verb ++ [32] ++ Lib.decDigits fr ++ [32]) (b := Lib.decDigits n) rfl rfl (by simp; omega)) ?_
      refine run ?_
      exact ⟨_, ⟨_, true, y1.trans y2, ⟨fun _ => hk.2 ⟨e1, ⟨e2, e3⟩, e4⟩, fun _ => rfl⟩, fun _ => htx.symm, rfl⟩, rfl, rfl, rfl, trivial⟩
    by_cases hsg : single a.verb
    · have hk := okA_single hsg
      have htx : textP a = a.verb := by
        obtain ⟨n1, n2⟩ := single_ne hsg
        have : wordsP a = [a.verb] := by unfold wordsP; rw [if_neg n1, if_neg n2]
        unfold textP; rw [this, Lib.join_one]
      rcases hsg with hsg | hsg | hsg
      · refine run ?_
        refine L.op (V.load (v := .int .i64 a.sl) rfl (c2 1)) ?_
        by_cases e1 : a.sl = 0
        rotate_left
        · refine run ?_
          exact ⟨_, ⟨a.verb, false, Mods.refl _ _, ⟨fun hf => (by cases hf), fun ho => absurd (hk.1 ho).1 e1⟩, fun hf => (by cases hf), rfl⟩, rfl, rfl, rfl, trivial⟩
        refine run ?_
        refine L.gyes rfl rfl (V.load (v := .int .i64 a.cn) rfl (c2 2)) ?_
        by_cases e2 : a.cn = 0
        rotate_left
        · refine run ?_
          exact ⟨_, ⟨a.verb, false, Mods.refl _ _, ⟨fun hf => (by cases hf), fun ho => absurd (hk.1 ho).2.1 e2⟩, fun hf => (by cases hf), rfl⟩, rfl, rfl, rfl, trivial⟩
        refine run ?_
        refine L.gyes rfl rfl (V.load (v := .int .u32 a.fr) rfl (c2 3)) ?_
        by_cases e3 : a.fr = 0
        rotate_left
        · refine run ?_
          exact ⟨_, ⟨a.verb, false, Mods.refl _ _, ⟨fun hf => (by cases hf), fun ho => absurd (hk.1 ho).2.2.1 e3⟩, fun hf => (by cases hf), rfl⟩, rfl, rfl, rfl, trivial⟩
        refine run ?_
        refine L.gyes rfl rfl (V.load (v := .slice An a.names.length cn) rfl (c2 4)) ?_
        by_cases e4 : a.names.length = 0
        rotate_left
        · refine run ?_
          exact ⟨_, ⟨a.verb, false, Mods.refl _ _, ⟨fun hf => (by cases hf), fun ho => absurd (hk.1 ho).2.2.2 e4⟩, fun hf => (by cases hf), rfl⟩, rfl, rfl, rfl, trivial⟩
        refine run ?_
        exact ⟨_, ⟨a.verb, true, Mods.refl _ _, ⟨fun _ => hk.2 ⟨e1, e2, e3, e4⟩, fun _ => rfl⟩, fun _ => htx.symm, rfl⟩, rfl, rfl, rfl, trivial⟩
      · have n_verify : a.verb ≠ [118, 101, 114, 105, 102, 121] := by rw [hsg]; decide
        refine run ?_
        refine L.op (V.load (v := .int .i64 a.sl) rfl (c2 1)) ?_
        by_cases e1 : a.sl = 0
        rotate_left
        · refine run ?_
          exact ⟨_, ⟨a.verb, false, Mods.refl _ _, ⟨fun hf => (by cases hf), fun ho => absurd (hk.1 ho).1 e1⟩, fun hf => (by cases hf), rfl⟩, rfl, rfl, rfl, trivial⟩
        refine run ?_
        refine L.gyes rfl rfl (V.load (v := .int .i64 a.cn) rfl (c2 2)) ?_
        by_cases e2 : a.cn = 0
        rotate_left
        · refine run ?_
          exact ⟨_, ⟨a.verb, false, Mods.refl _ _, ⟨fun hf => (by cases hf), fun ho => absurd (hk.1 ho).2.1 e2⟩, fun hf => (by cases hf), rfl⟩, rfl, rfl, rfl, trivial⟩
        refine run ?_
        refine L.gyes rfl rfl (V.load (v := .int .u32 a.fr) rfl (c2 3)) ?_
        by_cases e3 : a.fr = 0
        rotate_left
        · refine run ?_
          exact ⟨_, ⟨a.verb, false, Mods.refl _ _, ⟨fun hf => (by cases hf), fun ho => absurd (hk.1 ho).2.2.1 e3⟩, fun hf => (by cases hf), rfl⟩, rfl, rfl, rfl, trivial⟩
        refine run ?_
        refine L.gyes rfl rfl (V.load (v := .slice An a.names.length cn) rfl (c2 4)) ?_
        by_cases e4 : a.names.length = 0
        rotate_left
        · refine run ?_
          exact ⟨_, ⟨a.verb, false, Mods.refl _ _, ⟨fun hf => (by cases hf), fun ho => absurd (hk.1 ho).2.2.2 e4⟩, fun hf => (by cases hf), rfl⟩, rfl, rfl, rfl, trivial⟩
        refine run ?_
        exact ⟨_, ⟨a.verb, true, Mods.refl _ _, ⟨fun _ => hk.2 ⟨e1, e2, e3, e4⟩, fun _ => rfl⟩, fun _ => htx.symm, rfl⟩, rfl, rfl, rfl, trivial⟩
      · have n_verify : a.verb ≠ [118, 101, 114, 105, 102, 121] := by rw [hsg]; decide
        have n_repair : a.verb ≠ [114, 101, 112, 97, 105, 114] := by rw [hsg]; decide
        refine run ?_
        refine L.op (V.load (v := .int .i64 a.sl) rfl (c2 1)) ?_
        by_cases e1 : a.sl = 0
        rotate_left
        · refine run ?_
          exact ⟨_, ⟨a.verb, false, Mods.refl _ _, ⟨fun hf => (by cases hf), fun ho => absurd (hk.1 ho).1 e1⟩, fun hf => (by cases hf), rfl⟩, rfl, rfl, rfl, trivial⟩
        refine run ?_
        refine L.gyes rfl rfl (V.load (v := .int .i64 a.cn) rfl (c2 2)) ?_
        by_cases e2 : a.cn = 0
        rotate_left
        · refine run ?_
          exact ⟨_, ⟨a.verb, false, Mods.refl _ _, ⟨fun hf => (by cases hf), fun ho => absurd (hk.1 ho).2.1 e2⟩, fun hf => (by cases hf), rfl⟩, rfl, rfl, rfl, trivial⟩
        refine run ?_
        refine L.gyes rfl rfl (V.load (v := .int .u32 a.fr) rfl (c2 3)) ?_
        by_cases e3 : a.fr = 0
        rotate_left
        · refine run ?_
          exact ⟨_, ⟨a.verb, false, Mods.refl _ _, ⟨fun hf => (by cases hf), fun ho => absurd (hk.1 ho).2.2.1 e3⟩, fun hf => (by cases hf), rfl⟩, rfl, rfl, rfl, trivial⟩
        refine run ?_
        refine L.gyes rfl rfl (V.load (v := .slice An a.names.length cn) rfl (c2 4)) ?_
        by_cases e4 : a.names.length = 0
        rotate_left
        · refine run ?_
          exact ⟨_, ⟨a.verb, false, Mods.refl _ _, ⟨fun hf => (by cases hf), fun ho => absurd (hk.1 ho).2.2.2 e4⟩, fun hf => (by cases hf), rfl⟩, rfl, rfl, rfl, trivial⟩
        refine run ?_
        exact ⟨_, ⟨a.verb, true, Mods.refl _ _, ⟨fun _ => hk.2 ⟨e1, e2, e3, e4⟩, fun _ => rfl⟩, fun _ => htx.symm, rfl⟩, rfl, rfl, rfl, trivial⟩
    · have hno := okA_none (show a.verb ≠ createS from hc) (show a.verb ≠ extendS from hx) hsg
      have n1 : a.verb ≠ [118, 101, 114, 105, 102, 121] := fun he => hsg (.inl he)
      have n2 : a.verb ≠ [114, 101, 112, 97, 105, 114] := fun he => hsg (.inr (.inl he))
      have n3 : a.verb ≠ [108, 105, 115, 116] := fun he => hsg (.inr (.inr he))
      refine run ?_
      exact ⟨_, ⟨a.verb, false, Mods.refl _ _, ⟨fun hf => (by cases hf), fun ho => absurd ho hno⟩, fun hf => (by cases hf), rfl⟩, rfl, rfl, rfl, trivial⟩
  · rintro lv h3 τ3 ⟨W, ok, x3, hok, hW, rfl⟩
    have b3 : Blk h3 h.size (ARv a (.slice An a.names.length cn)) 32 := x3.at b2
    have hV3 := hV2.ext x3
    have hpl := names_of (textP a)
    refine run ?_
    refine L.op (V.loada (vs := ARv a (.slice An a.names.length cn)) rfl rfl (fun i hi => by rw [add_lit, Blk.cell b3]; simp)) ?_
    have hpr := print_c a (.slice An a.names.length cn) h3 hV3 (hN2.ext x3) hr (by omega) htl (by omega)
    cases ok with
    | false =>
      have hno : ¬ okA a := fun ho => by have := hok.2 ho; cases this
      rw [printP_bad hno] at hpr
      refine L.c1 rfl hpr ?_
      rintro _ h4 ⟨rfl, x4⟩
      refine run ?_
      exact ret1 rfl (by constructor) ⟨rfl, x1.trans (x2.trans (x3.trans x4))⟩
    | true =>
      have ho : okA a := hok.1 rfl
      obtain rfl : W = textP a := hW rfl
      rw [printP_ok ho] at hpr
      refine L.c1 rfl hpr ?_
      rintro _ h4 ⟨rfl, x4⟩
      have hpa := parse_c (textP a) h4 (hV3.ext x4) htl
      rw [parsP_text ho] at hpa
      refine run ?_
      refine L.c1 rfl hpa ?_
      rintro _ h5 ⟨⟨pv, rfl, hpn⟩, x5⟩
      have x35 : Ext h3 h5 := x4.trans x5
      have q5 := x5.size
      have q4 := x4.size
      have q3 := x3.size
      refine run ?_
      refine L.do1 (D.al (cs := ARv AZ (.slice none 0 0)) rfl) ?_
      rintro _ h6 ⟨rfl, n6⟩
      have s6 := n6.size
      refine L.do0 (D.sta (b := h5.size) (cs := ARv AZ (.slice none 0 0)) (vs := ARv a pv) rfl rfl rfl (oneA _ hpn) n6.at_ rfl) ?_
      rintro _ h7 t7
      have x57 : Ext h5 h7 := Mods.ext n6.ext t7.mods (fun k hk he => by omega)
      have x37 : Ext h3 h7 := x35.trans x57
      have b7 : Blk h7 h.size (ARv a (.slice An a.names.length cn)) 32 := x37.at b3
      have e7 : Blk h7 h5.size (ARv a pv) 32 := t7.at_ (by omega)
      refine run ?_
      refine L.gyes rfl rfl (V.loada (vs := ARv a pv) rfl rfl (fun i hi => by rw [add_lit, Blk.cell e7]; simp)) ?_
      refine L.gyes rfl rfl (V.loada (vs := ARv a (.slice An a.names.length cn)) rfl rfl (fun i hi => by rw [add_lit, Blk.cell b7]; simp)) ?_
      have hs := lsame_c a a pv (.slice An a.names.length cn) h7 (hpn.ext x57) (hN2.ext (x3.trans x37)) (by omega)
      rw [sameB_self] at hs
      refine L.c1g rfl rfl rfl hs ?_
      rintro _ h8 ⟨rfl, x8⟩
      refine run ?_
      exact ret1 rfl (by constructor) ⟨rfl, x1.trans (x2.trans (x3.trans (x37.trans x8)))⟩
end Go.Proofs.YtoggdigclbcndaaDoor.E
