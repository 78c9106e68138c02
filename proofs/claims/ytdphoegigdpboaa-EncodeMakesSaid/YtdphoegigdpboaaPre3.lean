/-
  precode.Rows: the parities' numbers.
-/
import Derived.Test.YtdphoegigdpboaaPre2
set_option linter.unusedVariables false
set_option linter.unusedSimpArgs false
namespace Go.Proofs.Ytdphoegigdpboaa.E
open Go Go.Proofs
set_option maxRecDepth 100000
/-- the number of source i in parity j, of k sources -/
def parC (k j i : Nat) : UInt8 :=
  if j < sp k then (if i % sp k = j ∨ (3 * i + 1) % sp k = j then 1 else 0) else if j = sp k then Gf.powN 2 (i + 1) else Gf.powN 2 (2 * (i + 1))
def parR (k j : Nat) : List UInt8 := (List.range k).map (parC k j)
def pars (k : Nat) : List (List UInt8) := (List.range (sp k + 2)).map (parR k)
theorem parR_len (k j : Nat) : (parR k j).length = k := by simp [parR]
theorem pars_len (k : Nat) : (pars k).length = sp k + 2 := by simp [pars]
theorem sp_pos (k : Nat) : 1 ≤ sp k := by simp only [sp]; omega
/-- the first i places of parity j -/
def parP (k i j : Nat) : List UInt8 := (List.range k).map fun x => if x < i then parC k j x else 0
theorem parP_len (k i j : Nat) : (parP k i j).length = k := by simp [parP]
theorem parP_zero (k j : Nat) : parP k 0 j = List.replicate k 0 := by
  apply List.ext_getElem
  · simp [parP]
  · intro i h1 h2; simp [parP]
theorem parP_all (k j : Nat) : parP k k j = parR k j := by
  apply List.ext_getElem
  · simp [parP, parR]
  · intro i h1 h2
    have : i < k := by simpa [parP] using h1
    simp [parP, parR, this]
theorem parP_set (k i j : Nat) (hi : i < k) (c : UInt8) (hc : c = parC k j i) : (parP k i j).set i c = parP k (i + 1) j := by
  subst hc
  apply List.ext_getElem
  · simp [parP]
  · intro x h1 h2
    simp only [parP, List.getElem_set, List.getElem_map, List.getElem_range]
    by_cases hx : i = x
    · subst hx; rw [if_pos rfl, if_pos (by omega)]
    · rw [if_neg hx]
      by_cases hl : x < i
      · rw [if_pos hl, if_pos (by omega)]
      · rw [if_neg hl, if_neg (by omega)]
theorem parP_keep (k i j : Nat) (hc : parC k j i = 0) : parP k i j = parP k (i + 1) j := by
  apply List.ext_getElem
  · simp [parP]
  · intro x h1 h2
    simp only [parP, List.getElem_map, List.getElem_range]
    by_cases hx : i = x
    · subst hx; rw [if_neg (by omega), if_pos (by omega), hc]
    · by_cases hl : x < i
      · rw [if_pos hl, if_pos (by omega)]
      · rw [if_neg hl, if_neg (by omega)]
def upT (T : Nat → List UInt8) (r i : Nat) (c : UInt8) : Nat → List UInt8 := fun j => if j = r then (T j).set i c else T j
theorem parP_next (k i : Nat) (hi : i < k) (j : Nat) (hj : j < sp k + 2) :
    upT (upT (upT (upT (parP k i) (i % sp k) i 1) ((3 * i + 1) % sp k) i 1) (sp k) i (Gf.powN 2 (i + 1))) (sp k + 1) i (Gf.powN 2 (2 * (i + 1))) j = parP k (i + 1) j := by
  have hs := sp_pos k
  have m1 : i % sp k < sp k := Nat.mod_lt _ hs
  have m2 : (3 * i + 1) % sp k < sp k := Nat.mod_lt _ hs
  simp only [upT]
  by_cases h1 : j = sp k + 1
  · subst h1
    rw [if_pos rfl, if_neg (by omega), if_neg (by omega), if_neg (by omega)]
    exact parP_set k i _ hi _ (by rw [parC, if_neg (by omega), if_neg (by omega)])
  · rw [if_neg h1]
    by_cases h2 : j = sp k
    · subst h2
      rw [if_pos rfl, if_neg (by omega), if_neg (by omega)]
      exact parP_set k i _ hi _ (by rw [parC, if_neg (by omega), if_pos rfl])
    · rw [if_neg h2]
      have hj' : j < sp k := by omega
      by_cases h3 : j = (3 * i + 1) % sp k
      · rw [if_pos h3]
        have hc : (1 : UInt8) = parC k j i := by rw [parC, if_pos hj', if_pos (.inr h3.symm)]
        split
        · rw [List.set_set]; exact parP_set k i j hi _ hc
        · exact parP_set k i j hi _ hc
      · rw [if_neg h3]
        by_cases h4 : j = i % sp k
        · rw [if_pos h4]
          exact parP_set k i j hi _ (by rw [parC, if_pos hj', if_pos (.inl h4.symm)])
        · rw [if_neg h4]
          refine parP_keep k i j ?_
          rw [parC, if_pos hj', if_neg]
          rintro (h | h)
          · exact h4 h.symm
          · exact h3 h.symm
def inT (k i : Nat) (T : Nat → List UInt8) : Nat → Nat → List UInt8
  | 0 => T
  | d + 1 => upT (inT k i T d) (sp k + d) i (Gf.powN 2 ((i + 1) * (d + 1)))
/-- the cells of the outer row, where m of N rows are made -/
def outc (B k N m : Nat) : List Value := (List.range N).map fun j => if j < m then .slice (some ⟨B + 1 + j, 0, none⟩) k k else .slice none 0 0
theorem outc_len (B k N m : Nat) : (outc B k N m).length = N := by simp [outc]
theorem outc_zero (B k N : Nat) : List.replicate N (Value.slice none 0 0) = outc B k N 0 := by
  apply List.ext_getElem
  · simp [outc]
  · intro i h1 h2; simp [outc]
theorem outc_set (B k N m : Nat) (hm : m < N) : (outc B k N m).set m (.slice (some ⟨B + 1 + m, 0, none⟩) k k) = outc B k N (m + 1) := by
  apply List.ext_getElem
  · simp [outc]
  · intro x h1 h2
    simp only [outc, List.getElem_set, List.getElem_map, List.getElem_range]
    by_cases hx : m = x
    · subst hx; rw [if_pos rfl, if_pos (by omega)]
    · rw [if_neg hx]
      by_cases hl : x < m
      · rw [if_pos hl, if_pos (by omega)]
      · rw [if_neg hl, if_neg (by omega)]
theorem outc_get (B k N j : Nat) (hj : j < N) : (outc B k N N)[j]? = some (.slice (some ⟨B + 1 + j, 0, none⟩) k k) := by simp [outc, hj]
structure Tab (h0 : Heap) (e k N m : Nat) (T : Nat → List UInt8) (h : Heap) : Prop where
  size : h.size = h0.size + 1 + m
  out : Blk h h0.size (outc h0.size k N m) e
  row : ∀ j, j < m → Blk h (h0.size + 1 + j) (bys (T j)) 5
  len : ∀ j, j < m → (T j).length = k
  ext : Ext h0 h
theorem Tab.set {h0 h h' : Heap} {e k N : Nat} {T : Nat → List UInt8} (t : Tab h0 e k N N T h) {r i : Nat} {c : UInt8} (hr : r < N) (hs : Set_ h h' (h0.size + 1 + r) (.cells ((bys (T r)).set i (u8v c)).toArray 5 (0, 0))) : Tab h0 e k N N (upT T r i c) h' := by
  have hz := t.size
  refine ⟨by rw [hs.size, hz], ?_, fun j hj => ?_, fun j hj => ?_, Mods.ext t.ext hs.mods (fun k hk he => by omega)⟩
  · have := t.out; unfold Blk at *; rw [hs.other (by omega)]; exact this
  · unfold upT
    by_cases hjr : j = r
    · subst hjr; rw [if_pos rfl, ← bys_set]; exact hs.at_ (by omega)
    · rw [if_neg hjr]
      have := t.row j hj
      unfold Blk at *; rw [hs.other (by omega)]; exact this
  · unfold upT; split
    · rw [List.length_set]; exact t.len j hj
    · exact t.len j hj
theorem Tab.same {h0 h : Heap} {e k N m : Nat} {T T' : Nat → List UInt8} (t : Tab h0 e k N m T h) (hT : ∀ j, j < m → T j = T' j) : Tab h0 e k N m T' h :=
  ⟨t.size, t.out, fun j hj => by rw [← hT j hj]; exact t.row j hj, fun j hj => by rw [← hT j hj]; exact t.len j hj, t.ext⟩
theorem Tab.bss {h0 h : Heap} {e k N : Nat} {T : Nat → List UInt8} (t : Tab h0 e k N N T h) : Bss (fun b => h0.size ≤ b) h (some ⟨h0.size, 0, none⟩) ((List.range N).map T) := by
  refine ⟨outc h0.size k N N, .inr ⟨h0.size, 0, _, _, _, rfl, Nat.le_refl _, t.out, fun i hi => by simp⟩, by simp [outc_len], fun i v x hv hx => ?_⟩
  have hi : i < N := by have := (List.getElem?_eq_some_iff.1 hx).1; simpa using this
  rw [outc_get _ _ _ _ hi] at hv
  cases hv
  have hx' : x = T i := by simp [hi] at hx; exact hx.symm
  subst hx'
  have hl := t.len i hi
  refine ⟨_, _, by rw [hl], by omega, .inr ⟨_, 0, _, _, _, rfl, by omega, t.row i hi, fun i hi => by simp⟩⟩
theorem rows_c (k : Nat) (h : Heap) (h1 : 1 ≤ k) (h2 : k ≤ 64) : Ret Try.prog 69 [.int .i64 (k : Int)] h (fun v h' => ∃ A, v = .slice A (sp k + 2) (sp k + 2) ∧ Bss (fun b => h.size ≤ b) h' A (pars k) ∧ Ext h h') := by
  refine Ret.enter Try.func69 rfl Try.ntmps69 (by show 1 ≤ 68; decide) fun w0 => ?_
  have hs : sp k ≤ 100 := by simp only [sp]; omega
  have hs1 := sp_pos k
  refine run ?_
  refine L.cq rfl (wrong_ok k h h1 h2) ?_
  refine run ?_
  refine L.cq rfl (sparse_c k h (by omega)) ?_
  refine run ?_
  refine L.do1 (D.mk' (l := sp k + 2) (z := .slice none 0 0) (int_eq (by omega)) (int_eq (by omega)) rfl (by omega) (by omega)) ?_
  rintro _ hh1 ⟨rfl, n1⟩
  have s1 := n1.size
  rw [outc_zero h.size k] at n1
  refine run ?_
  refine C.loopv (fun m l h' => ∃ i, i ≤ sp k + 2 ∧ m = sp k + 2 - i ∧ Tab h 30 k (sp k + 2) i (fun _ => List.replicate k 0) h' ∧
    l = [(0, .int .i64 (k : Int)), (3, .int .i64 (sp k : Int)), (4, .slice (some ⟨h.size, 0, none⟩) (sp k + 2) (sp k + 2)), (16, .int .i64 ((sp k + 2 : Nat) : Int)), (17, .int .i64 (i : Int))]) (sp k + 2) _
    ⟨0, by omega, by omega, ⟨s1, n1.at_, fun j hj => by omega, fun j hj => by omega, n1.ext⟩, rfl⟩ ⟨rfl, rfl, rfl, rfl, rfl, trivial⟩ ?_
  rintro m l h' τ ⟨i, hi, rfl, t, rfl⟩
  have tz := t.size
  by_cases hlt : i < sp k + 2
  · refine run ?_
    refine L.do1 (D.mk' (l := k) (z := .int .u8 0) rfl rfl rfl (by omega) (by omega)) ?_
    rintro _ h3 ⟨rfl, n3⟩
    have s3 := n3.size
    refine run ?_
    refine L.op (V.idx rfl rfl (by omega) (by omega)) ?_
    have ho : Blk h3 h.size (outc h.size k (sp k + 2) i) 30 := n3.ext.at t.out
    refine L.do0 (D.st (b := h.size) (o := i) (v := .slice (some ⟨h'.size, 0, none⟩) k k) (by rw [add_lit]; show Value.pointer (some ⟨h.size, 0 + (i : Int).toNat * 1, none⟩) = _; simp) rfl rfl ho (by rw [outc_len]; omega)) ?_
    rintro _ h4 t4
    have s4 := t4.size
    refine run ?_
    refine ⟨_, _, by omega, ⟨i + 1, by omega, rfl, ⟨by omega, ?_, fun j hj => ?_, fun j hj => by simp, ?_⟩, rfl⟩, rfl, rfl, rfl, rfl, int_eq (by omega), trivial⟩
    · have := t4.at_ (by omega)
      rw [tz, outc_set _ _ _ _ hlt] at this
      exact this
    · by_cases hji : j = i
      · subst hji
        have := n3.at_
        rw [← bys_replicate, tz] at this
        unfold Blk
        rw [t4.other (by omega)]; exact this
      · have := n3.ext.at (t.row j (by omega))
        unfold Blk
        rw [t4.other (by omega)]; exact this
    · exact Mods.ext (t.ext.trans n3.ext) t4.mods (fun k hk he => by omega)
  · obtain rfl : i = sp k + 2 := by omega
    refine run ?_
    refine C.loopv (fun m l h' => ∃ i, i ≤ k ∧ m = k - i ∧ Tab h 30 k (sp k + 2) (sp k + 2) (parP k i) h' ∧
      l = [(0, .int .i64 (k : Int)), (3, .int .i64 (sp k : Int)), (4, .slice (some ⟨h.size, 0, none⟩) (sp k + 2) (sp k + 2)), (26, .int .i64 (k : Int)), (27, .int .i64 (i : Int))]) k _
      ⟨0, by omega, by omega, t.same (fun j _ => (parP_zero k j).symm), rfl⟩ ⟨rfl, rfl, rfl, rfl, rfl, trivial⟩ ?_
    rintro m l h' τ ⟨i, hi, rfl, t, rfl⟩
    by_cases hlt : i < k
    · obtain ⟨r1, hr1⟩ : ∃ r, r = i % sp k := ⟨_, rfl⟩
      obtain ⟨r2, hr2⟩ : ∃ r, r = (3 * i + 1) % sp k := ⟨_, rfl⟩
      have m1 : r1 < sp k := by rw [hr1]; exact Nat.mod_lt _ hs1
      have m2 : r2 < sp k := by rw [hr2]; exact Nat.mod_lt _ hs1
      have e1 : ((i : Int) % (sp k : Int)) = (r1 : Int) := by rw [hr1]; push_cast; rfl
      have e2 : ((3 * (i : Int) + 1) % (sp k : Int)) = (r2 : Int) := by rw [hr2]; push_cast; rfl
      have key := parP_next k i hlt
      rw [← hr1, ← hr2] at key
      refine run ?_
      refine L.op (V.idx rfl (int_eq e1) (by omega) (by omega)) ?_
      refine L.op (V.load (v := .slice (some ⟨h.size + 1 + r1, 0, none⟩) k k) rfl (by rw [add_lit, Blk.cell t.out]; simpa using outc_get _ _ _ _ (by omega))) ?_
      refine run ?_
      refine L.op (V.idx rfl rfl (by omega) (by omega)) ?_
      refine L.do0 (D.st (b := h.size + 1 + r1) (o := i) (v := u8v 1) (by show Value.pointer (some (Addr.add ⟨h.size + 1 + r1, 0, none⟩ ((i : Int).toNat * 1))) = _; rw [add_lit]; simp) rfl rfl (t.row _ (by omega)) (by rw [bys_length, t.len _ (by omega)]; exact hlt)) ?_
      rintro _ h3 t3
      have u3 := t.set (by omega) t3
      refine run ?_
      refine L.op (V.idx rfl (int_eq e2) (by omega) (by omega)) ?_
      refine L.op (V.load (v := .slice (some ⟨h.size + 1 + r2, 0, none⟩) k k) rfl (by rw [add_lit, Blk.cell u3.out]; simpa using outc_get _ _ _ _ (by omega))) ?_
      refine run ?_
      refine L.op (V.idx rfl rfl (by omega) (by omega)) ?_
      refine L.do0 (D.st (b := h.size + 1 + r2) (o := i) (v := u8v 1) (by show Value.pointer (some (Addr.add ⟨h.size + 1 + r2, 0, none⟩ ((i : Int).toNat * 1))) = _; rw [add_lit]; simp) rfl rfl (u3.row _ (by omega)) (by rw [bys_length, u3.len _ (by omega)]; exact hlt)) ?_
      rintro _ h4 t4
      have u4 := u3.set (by omega) t4
      refine run ?_
      refine C.loopv (fun m l h' => ∃ d, d ≤ 2 ∧ m = 2 - d ∧ Tab h 30 k (sp k + 2) (sp k + 2) (inT k i (upT (upT (parP k i) r1 i 1) r2 i 1) d) h' ∧
        l = [(0, .int .i64 (k : Int)), (3, .int .i64 (sp k : Int)), (4, .slice (some ⟨h.size, 0, none⟩) (sp k + 2) (sp k + 2)), (6, .int .i64 (i : Int)), (26, .int .i64 (k : Int)), (27, .int .i64 (i : Int)), (48, .int .i64 (d : Int))]) 2 _
        ⟨0, by omega, by omega, u4, rfl⟩ ⟨rfl, rfl, rfl, rfl, rfl, rfl, rfl, trivial⟩ ?_
      rintro m l h' τ ⟨d, hd, rfl, t, rfl⟩
      by_cases hd2 : d < 2
      · have hp : ∀ (h' : Heap) (x : Int), x = ((i + 1) * (d + 1) : Nat) → RetQ Try.prog 86 [.int .u8 2, .int .i64 x] h' (u8v (Gf.powN 2 ((i + 1) * (d + 1)))) := by
          intro h' x hx
          have hb : (i + 1) * (d + 1) < 2 ^ 62 := by
            have : (i + 1) * (d + 1) ≤ (i + 1) * 2 := Nat.mul_le_mul_left _ (by omega)
            omega
          have := pow_c 2 ((i + 1) * (d + 1)) hb h'
          rw [hx]; exact this
        have hset : ∀ {h' h5 : Heap}, Tab h 30 k (sp k + 2) (sp k + 2) (inT k i (upT (upT (parP k i) r1 i 1) r2 i 1) d) h' → Set_ h' h5 (h.size + 1 + (sp k + d)) (.cells ((bys (inT k i (upT (upT (parP k i) r1 i 1) r2 i 1) d (sp k + d))).set i (u8v (Gf.powN 2 ((i + 1) * (d + 1))))).toArray 5 (0, 0)) →
            Tab h 30 k (sp k + 2) (sp k + 2) (inT k i (upT (upT (parP k i) r1 i 1) r2 i 1) (d + 1)) h5 := fun t s => t.set (by omega) s
        rcases (by omega : d = 0 ∨ d = 1) with rfl | rfl
        · refine run ?_
          refine C.tail 14 mixed (by kernel_rfl) ?_
          refine run ?_
          refine L.op (V.idx (i := ((sp k + 0 : Nat) : Int)) rfl (int_eq (by omega)) (by omega) (by omega)) ?_
          refine L.op (V.load (v := .slice (some ⟨h.size + 1 + (sp k + 0), 0, none⟩) k k) rfl (by rw [add_lit, Blk.cell t.out]; simpa using outc_get _ _ _ _ (by omega))) ?_
          refine run ?_
          refine L.cqq rfl (hp h' _ (by omega)) ?_
          refine L.op (V.idx rfl rfl (by omega) (by omega)) ?_
          refine run ?_
          refine L.do0 (D.st (b := h.size + 1 + (sp k + 0)) (o := i) (v := u8v (Gf.powN 2 ((i + 1) * (0 + 1)))) (by show Value.pointer (some (Addr.add ⟨h.size + 1 + (sp k + 0), 0, none⟩ ((i : Int).toNat * 1))) = _; rw [add_lit]; simp) rfl rfl (t.row _ (by omega)) (by rw [bys_length, t.len _ (by omega)]; exact hlt)) ?_
          rintro _ h5 t5
          refine run ?_
          exact ⟨_, _, by omega, ⟨1, by omega, rfl, hset t t5, rfl⟩, rfl, rfl, rfl, rfl, rfl, rfl, int_eq (by omega), trivial⟩
        · refine run ?_
          refine C.tail 14 mixed (by kernel_rfl) ?_
          refine run ?_
          refine L.op (V.idx (i := ((sp k + 1 : Nat) : Int)) rfl (int_eq (by omega)) (by omega) (by omega)) ?_
          refine L.op (V.load (v := .slice (some ⟨h.size + 1 + (sp k + 1), 0, none⟩) k k) rfl (by rw [add_lit, Blk.cell t.out]; simpa using outc_get _ _ _ _ (by omega))) ?_
          refine run ?_
          refine L.cqq rfl (hp h' _ (by omega)) ?_
          refine L.op (V.idx rfl rfl (by omega) (by omega)) ?_
          refine run ?_
          refine L.do0 (D.st (b := h.size + 1 + (sp k + 1)) (o := i) (v := u8v (Gf.powN 2 ((i + 1) * (1 + 1)))) (by show Value.pointer (some (Addr.add ⟨h.size + 1 + (sp k + 1), 0, none⟩ ((i : Int).toNat * 1))) = _; rw [add_lit]; simp) rfl rfl (t.row _ (by omega)) (by rw [bys_length, t.len _ (by omega)]; exact hlt)) ?_
          rintro _ h5 t5
          refine run ?_
          exact ⟨_, _, by omega, ⟨2, by omega, rfl, hset t t5, rfl⟩, rfl, rfl, rfl, rfl, rfl, rfl, int_eq (by omega), trivial⟩
      · obtain rfl : d = 2 := by omega
        refine run ?_
        refine ⟨_, _, by omega, ⟨i + 1, by omega, rfl, t.same fun j hj => ?_, rfl⟩, rfl, rfl, rfl, rfl, int_eq (by omega), trivial⟩
        rw [← key j hj]
        simp only [inT]
        rw [Nat.add_zero, show (i + 1) * (0 + 1) = i + 1 by omega, show (i + 1) * (1 + 1) = 2 * (i + 1) by omega]
    · obtain rfl : i = k := by omega
      refine run ?_
      refine ret1 rfl (by constructor) ⟨_, rfl, ?_, t.ext⟩
      have := (t.same (T' := parR i) (fun j _ => parP_all i j)).bss
      exact this
end Go.Proofs.Ytdphoegigdpboaa.E
