/-
  row.Picks, but for the sort.
-/
import Derived.Test.YtdphoegigdpboaaDeg
set_option linter.unusedVariables false
set_option linter.unusedSimpArgs false
namespace Go.Proofs.Ytdphoegigdpboaa.E
open Go Go.Proofs
set_option maxRecDepth 100000
/-- a pick's two cells -/
def cell2 (p : Nat × UInt8) : List Value := [.int .i64 (p.1 : Int), u8v p.2]
def flat (ps : List (Nat × UInt8)) : List Value := ps.flatMap cell2
theorem flat_len : ∀ (ps : List (Nat × UInt8)), (flat ps).length = ps.length * 2
  | [] => rfl
  | p :: ps => by
    have := flat_len ps
    simp only [flat, List.flatMap_cons, List.length_append, List.length_cons] at this ⊢
    rw [this]; simp [cell2]; omega
theorem flat_snoc (ps : List (Nat × UInt8)) (p : Nat × UInt8) : flat (ps ++ [p]) = flat ps ++ cell2 p := by simp [flat]
theorem flat_get : ∀ (ps : List (Nat × UInt8)) (i : Nat) (hi : i < ps.length), (flat ps)[2 * i]? = some (.int .i64 (ps[i].1 : Int)) ∧ (flat ps)[2 * i + 1]? = some (u8v ps[i].2)
  | p :: ps, 0, _ => ⟨rfl, rfl⟩
  | p :: ps, i + 1, hi => by
    have := flat_get ps i (by simpa using hi)
    have e : flat (p :: ps) = (.int .i64 (p.1 : Int)) :: u8v p.2 :: flat ps := rfl
    rw [e, show 2 * (i + 1) = 2 * i + 1 + 1 by omega, show 2 * i + 1 + 1 + 1 = (2 * i + 1) + 1 + 1 by omega]
    simpa using this
/-- what is asked of the sort: the picks in some order -/
def SortOK : Prop := ∀ (h : Heap) (b cap : Nat) (ps : List (Nat × UInt8)) (cur : Array Value), h[b]? = some (.cells cur 92 (0, 0)) → cur.toList.take (ps.length * 2) = flat ps → ps.length ≤ 1000 →
  Ret Try.prog 75 [.slice (some ⟨b, 0, none⟩) ps.length cap, .func (.func 76) #[] #[]] h (fun v h' => ∃ ps', ps'.Perm ps ∧ Row h' (some ⟨b, 0, none⟩) (flat ps') ∧ Mods (fun k => k = b) h h')
/-- which places are taken -/
def tk (o : List UInt8) : List Value := o.map fun b => .bool (b != 0)
theorem tk_len (o : List UInt8) : (tk o).length = o.length := by simp [tk]
theorem tk_set (o : List UInt8) (a : Nat) (c : UInt8) (hc : c ≠ 0) : (tk o).set a (.bool true) = tk (o.set a c) := by
  have : (c != 0) = true := by simpa using hc
  simp [tk, List.map_set, this]
theorem runP_ps_len (n : Nat) (x0 : UInt32) : ∀ i, (runP n x0 i).ps.length = i
  | 0 => rfl
  | i + 1 => by simp [runP, stepP, runP_ps_len n x0 i]
theorem deg_ge (x n : Nat) : 1 ≤ deg x n := by unfold deg; omega
theorem picks_c (hsort : SortOK) (k : Nat) (id : UInt32) (h : Heap) (h1 : 1 ≤ k) (h2 : k ≤ 64) : Ret Try.prog 48 [.int .i64 (k : Int), u32v id] h
    (fun v h' => ∃ A cap ps', v = .slice A ps'.length cap ∧ ps'.Perm (picked k id).ps ∧ RowP (fun b => h.size ≤ b) h' A (flat ps') ∧ Ext h h') := by
  refine Ret.enter Try.func48 rfl Try.ntmps48 (by show 2 ≤ 55; decide) fun w0 => ?_
  have hs : sp k ≤ 100 := by simp only [sp]; omega
  have hn : nof k = k + (sp k + 2) := rfl
  refine run ?_
  refine L.cq rfl (count_c k h h1 h2) ?_
  refine run ?_
  refine L.cq rfl (seed_c k id h (by omega)) ?_
  refine L.c1 rfl (new_c (seed32 k id) h) ?_
  rintro _ hh1 ⟨rfl, m1⟩
  have s1 := m1.size
  refine run ?_
  refine L.do1 (D.mk' (l := nof k) (z := .bool false) (int_eq (by omega)) (int_eq (by omega)) rfl (by omega) (by omega)) ?_
  rintro _ hh2 ⟨rfl, m2⟩
  have s2 := m2.size
  have en : (((sp k + 2 : Nat) : Int) + (k : Int)) = (nof k : Int) := by omega
  have r2 : Blk hh2 h.size [u32v (begin32 (seed32 k id))] 121 := m2.ext.at m1.at_
  refine run ?_
  refine L.c1 rfl (show Ret _ _ [.pointer (some ⟨h.size, 0, none⟩), .int .i64 (((sp k + 2 : Nat) : Int) + (k : Int))] hh2 _ from by rw [en]; exact degree_c h.size (begin32 (seed32 k id)) (nof k) hh2 r2 (by omega) (by omega)) ?_
  rintro _ hh3 ⟨rfl, m3, r3⟩
  have s3 := m3.size
  have t3 : Blk hh3 hh1.size (tk (runP (nof k) (x0of k id) 0).o) 4 := by
    have e : tk (runP (nof k) (x0of k id) 0).o = List.replicate (nof k) (.bool false) := by simp [tk, runP]
    rw [e]
    exact m3.at m2.at_ (by omega)
  have hdd : deg ((next32 (begin32 (seed32 k id))).toNat % 1024) (nof k) = dof k id := rfl
  have hxx : next32 (begin32 (seed32 k id)) = x0of k id := rfl
  rw [hdd]
  rw [hxx] at r3
  have hdn : dof k id ≤ nof k := deg_le _ _ (by omega)
  have hd34 : dof k id ≤ 34 := deg_small _ _
  have hd1 : 1 ≤ dof k id := deg_ge _ _
  refine run ?_
  refine C.loopv (fun m l h' => ∃ i v, i ≤ dof k id ∧ m = dof k id - i ∧ Mods (fun b => b = h.size ∨ b = hh1.size) hh3 h' ∧ Blk h' h.size [u32v (runP (nof k) (x0of k id) i).x] 121 ∧ Blk h' hh1.size (tk (runP (nof k) (x0of k id) i).o) 4 ∧
    (Own h' hh3.size 92 2 v i (flat (runP (nof k) (x0of k id) i).ps) ∧ ∃ A c, v = .slice A i c) ∧
    l = [(5, .int .i64 (nof k : Int)), (6, .pointer (some ⟨h.size, 0, none⟩)), (7, .slice (some ⟨hh1.size, 0, none⟩) (nof k) (nof k)), (8, v), (25, .int .i64 (dof k id : Int)), (26, .int .i64 (i : Int))]) (dof k id) _
    ⟨0, _, by omega, by omega, Mods.refl _ _, r3, t3, ⟨Own.nil _ _ _ _, _, _, rfl⟩, rfl⟩ ⟨int_eq en, rfl, rfl, rfl, rfl, rfl, trivial⟩ ?_
  rintro m l h' τ ⟨i, v, hi, rfl, hm, hr, ht, ⟨ho, A, c, rfl⟩, rfl⟩
  have s4 := hm.size
  by_cases hlt : i < dof k id
  · have hol := runP_len (nof k) (x0of k id) i
    have hto := runP_took (nof k) (x0of k id) i
    have hst : runP (nof k) (x0of k id) (i + 1) = stepP (nof k) (runP (nof k) (x0of k id) i) := rfl
    generalize runP (nof k) (x0of k id) i = S at *
    obtain ⟨a0, ha0⟩ : ∃ a0, a0 = (next32 S.x).toNat % nof k := ⟨_, rfl⟩
    have ha0n : a0 < nof k := by rw [ha0]; exact Nat.mod_lt _ (by omega)
    obtain ⟨ts, hts, hz⟩ := free_at S.o (nof k) a0 ha0n (free_of S.o (nof k) hol (by omega))
    refine run ?_
    refine L.c1 rfl (below_c h.size S.x (nof k) h' hr (by omega) (by omega)) ?_
    rintro _ h4 ⟨rfl, t4⟩
    have s5 := t4.size
    have r4 : Blk h4 h.size [u32v (next32 S.x)] 121 := t4.at_ (by omega)
    have tt4 : Blk h4 hh1.size (tk S.o) 4 := by unfold Blk; rw [t4.other (by omega)]; exact ht
    have mm4 : Mods (fun b => b = h.size ∨ b = hh1.size) hh3 h4 := hm.trans (t4.mods.mono fun _ _ h => .inl h)
    have oo4 : Own h4 hh3.size 92 2 (.slice A i c) i (flat S.ps) := ho.mods t4.mods (fun b hb he => by have := (ho.base hb).1; omega)
    have e0 : (((next32 S.x).toNat % nof k : Nat) : Int) = (((a0 + 0) % nof k : Nat) : Int) := by rw [Nat.add_zero, Nat.mod_eq_of_lt ha0n, ha0]
    refine run ?_
    refine C.loopv (fun m l h'' => ∃ t, t ≤ ts ∧ m = ts - t ∧ h4 = h'' ∧ pr S.o (nof k) a0 0 (nof k) = pr S.o (nof k) a0 t (nof k - t) ∧
      l = [(5, .int .i64 (nof k : Int)), (6, .pointer (some ⟨h.size, 0, none⟩)), (7, .slice (some ⟨hh1.size, 0, none⟩) (nof k) (nof k)), (8, .slice A i c), (9, .int .i64 (((a0 + t) % nof k : Nat) : Int)), (25, .int .i64 (dof k id : Int)), (26, .int .i64 (i : Int))]) ts _
      ⟨0, by omega, by omega, rfl, rfl, rfl⟩ ⟨rfl, rfl, rfl, rfl, int_eq e0, rfl, rfl, trivial⟩ ?_
    rintro m l h'' τ ⟨t, htt, rfl, rfl, hpr, rfl⟩
    have hat : (a0 + t) % nof k < nof k := Nat.mod_lt _ (by omega)
    have hnx : ((a0 + t) % nof k + 1) % nof k = (a0 + (t + 1)) % nof k := by rw [Nat.mod_add_mod]; rfl
    obtain ⟨a, hae⟩ : ∃ a, a = (a0 + t) % nof k := ⟨_, rfl⟩
    rw [← hae] at hat hnx ⊢
    have hcell : (tk S.o)[a]? = some (.bool (S.o.getD a 0 != 0)) := by
      rw [List.getD_eq_getElem?_getD, List.getElem?_eq_getElem (show a < S.o.length by omega)]
      simp only [tk, List.getElem?_map, List.getElem?_eq_getElem (show a < S.o.length by omega)]; rfl
    refine run ?_
    refine L.op (V.idx rfl rfl (by omega) (by omega)) ?_
    by_cases h0 : S.o.getD a 0 = 0
    · have hpa : pr S.o (nof k) a0 0 (nof k) = a := by rw [hpr, pr_stop _ _ _ _ (by omega) (by rw [← hae]; exact h0), hae]
      rw [h0] at hcell
      refine L.op (V.load (v := .bool false) rfl (by rw [add_lit, Blk.cell tt4]; simpa using hcell)) ?_
      refine run ?_
      refine L.op (V.idx rfl rfl (by omega) (by omega)) ?_
      refine L.do0 (D.st (b := hh1.size) (o := a) (v := .bool true) (by show Value.pointer (some (Addr.add ⟨hh1.size, 0, none⟩ ((a : Int).toNat * 1))) = _; rw [add_lit]; simp) rfl rfl tt4 (by rw [tk_len]; omega)) ?_
      rintro _ h5 t5
      have s6 := t5.size
      have r5 : Blk h5 h.size [u32v (next32 S.x)] 121 := by unfold Blk; rw [t5.other (by omega)]; exact r4
      have tt5 : Blk h5 hh1.size (tk (S.o.set a (byteOf (next32 (next32 S.x))))) 4 := by rw [← tk_set _ _ _ (byteOf_ne _)]; exact t5.at_ (by omega)
      refine run ?_
      refine L.c1 rfl (show Ret _ _ [.pointer (some ⟨h.size, 0, none⟩), .int .i64 255] h5 _ from below_c h.size (next32 S.x) 255 h5 r5 (by omega) (by omega)) ?_
      rintro _ h6 ⟨rfl, t6⟩
      have s7 := t6.size
      have r6 : Blk h6 h.size [u32v (next32 (next32 S.x))] 121 := t6.at_ (by omega)
      have tt6 : Blk h6 hh1.size (tk (S.o.set a (byteOf (next32 (next32 S.x))))) 4 := by have := tt5; unfold Blk at this ⊢; rw [t6.other (by omega)]; exact this
      have ec : (1 : Int) + (((next32 (next32 S.x)).toNat % 255 : Nat) : Int) = ((byteOf (next32 (next32 S.x))).toNat : Int) := by rw [byteOf_nat]; omega
      refine run ?_
      refine L.op (V.buildS (vals := [(0, .int .i64 (a : Int)), (1, u8v (byteOf (next32 (next32 S.x))))]) (cells := cell2 (a, byteOf (next32 (next32 S.x)))) (by
        show [(0, Value.int .i64 (a : Int)), (1, Value.int .u8 ((1 : Int) + (((next32 (next32 S.x)).toNat % 255 : Nat) : Int)))] = _
        rw [ec]) rfl rfl) ?_
      refine L.do1 (D.bslice (vals := [(0, .agg (cell2 (a, byteOf (next32 (next32 S.x)))).toArray)]) (cells := cell2 (a, byteOf (next32 (next32 S.x)))) rfl rfl (by decide) rfl) ?_
      rintro _ h7 ⟨rfl, e7⟩
      have m7 : New h6 h7 (.cells (cell2 (a, byteOf (next32 (next32 S.x)))).toArray 92) := ⟨e7⟩
      have s8 := m7.size
      have mm7 : Mods (fun b => b = h.size ∨ b = hh1.size) h4 h7 := (t5.mods.mono fun _ _ h => .inr h).trans ((t6.mods.mono fun _ _ h => .inl h).trans m7.ext.mods)
      have oo7 : Own h7 hh3.size 92 2 (.slice A i c) i (flat S.ps) := oo4.mods mm7 (fun b hb he => by have := (oo4.base hb).1; omega)
      refine L.do1 (D.appendi (z := .agg #[.int .i64 0, .int .u8 0]) (by constructor) rfl oo7 (Row.of_blk m7.at_) rfl (by intro u hu; simp [cell2] at hu; rcases hu with rfl | rfl <;> rfl) rfl (by decide) (by decide) (by omega) (by omega)) ?_
      rintro v' h8 ⟨o8, m8, hv8⟩
      have s9 := m8.size
      have hps : flat S.ps ++ cell2 (a, byteOf (next32 (next32 S.x))) = flat (runP (nof k) (x0of k id) (i + 1)).ps := by
        rw [hst]; simp only [stepP, ← ha0, hpa]; rw [flat_snoc]
      rw [hps] at o8
      obtain ⟨A8, c8, rfl, -⟩ := o8.row
      refine run ?_
      refine ⟨_, _, by omega, ⟨i + 1, _, by omega, rfl, ?_, ?_, ?_, ⟨o8, _, _, rfl⟩, rfl⟩, rfl, rfl, rfl, rfl, rfl, int_eq (by omega), trivial⟩
      · refine ⟨by have := mm4.size; omega, fun b hb hS => ?_⟩
        rw [← (mm4.trans mm7).block b hb hS]
        exact m8.block b (by have := mm4.size; omega) (fun he => by have := (oo7.base he).1; omega)
      · rw [hst]; exact m8.at (m7.ext.at r6) (fun he => by have := (oo7.base he).1; omega)
      · rw [hst]; simp only [stepP, ← ha0, hpa]
        exact m8.at (m7.ext.at tt6) (fun he => by have := (oo7.base he).1; omega)
    · have h0' : (S.o.getD a 0 != 0) = true := by simpa using h0
      rw [h0'] at hcell
      have htl : t < ts := by
        rcases Nat.lt_or_ge t ts with hl | hl
        · exact hl
        · obtain rfl : t = ts := by omega
          rw [← hae] at hz; exact absurd hz h0
      have ern : (((a : Int) + 1) % (nof k : Int)) = (((a0 + (t + 1)) % nof k : Nat) : Int) := by rw [← hnx]; push_cast; rfl
      refine L.op (V.load (v := .bool true) rfl (by rw [add_lit, Blk.cell tt4]; simpa using hcell)) ?_
      refine run ?_
      exact ⟨_, _, by omega, ⟨t + 1, by omega, rfl, rfl, by rw [hpr, pr_step _ _ _ _ (by omega) (by rw [← hae]; exact h0)], rfl⟩, rfl, rfl, rfl, rfl, int_eq ern, rfl, rfl, trivial⟩
  · obtain rfl : i = dof k id := by omega
    have hpl := runP_ps_len (nof k) (x0of k id) (dof k id)
    have hpe : (picked k id).ps = (runP (nof k) (x0of k id) (dof k id)).ps := rfl
    rw [hpe]
    generalize (runP (nof k) (x0of k id) (dof k id)).ps = ps at *
    rcases ho.2 with ⟨_, h0⟩ | ⟨g, cap, cur, hv, hb, hg, hnc, hcm, hcs, htake⟩
    · omega
    · injection hv with hv1 hv2 hv3
      subst hv1 hv3
      refine run ?_
      refine L.c1 rfl (show Ret _ _ [.slice (some ⟨g, 0, none⟩) (dof k id) c, .func (.func 76) #[] #[]] h' _ from by
        have := hsort h' g c ps cur hg (by rw [hpl]; exact htake) (by omega)
        rw [hpl] at this; exact this) ?_
      rintro _ h9 ⟨ps', hperm, hrow, m9⟩
      refine run ?_
      have hl' := hperm.length_eq
      refine ret1 rfl (by constructor) ⟨_, c, ps', by rw [hl', hpl], hperm, ?_, ?_⟩
      · rcases hrow with hr0 | ⟨b', o', cs', t', z', hA, hb', hc'⟩
        · exact .inl hr0
        · refine .inr ⟨b', o', cs', t', z', hA, ?_, hb', hc'⟩
          injection hA with hA; injection hA with hA1 hA2; omega
      · have x3 : Ext h hh3 := Mods.ext (m1.ext.trans m2.ext) m3 (fun b hb he => by omega)
        have x4 : Ext h h' := Mods.ext x3 hm (fun b hb he => by omega)
        exact Mods.ext x4 m9 (fun b hb he => by omega)
end Go.Proofs.Ytdphoegigdpboaa.E
