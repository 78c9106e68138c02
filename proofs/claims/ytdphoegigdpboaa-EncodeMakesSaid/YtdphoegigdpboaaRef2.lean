/-
  The picks of an ID: as a plain process; the reference's walk.
-/
import Derived.Test.YtdphoegigdpboaaRef1
set_option linter.unusedVariables false
set_option linter.unusedSimpArgs false
namespace Go.Proofs.Ytdphoegigdpboaa.E
open Go Go.Proofs
set_option maxRecDepth 100000
/-- the first free place from a0 on; t were looked at -/
def pr (o : List UInt8) (n a0 t : Nat) : Nat → Nat
  | 0 => (a0 + t) % n
  | f + 1 => if o.getD ((a0 + t) % n) 0 = 0 then (a0 + t) % n else pr o n a0 (t + 1) f
structure PS where
  x : UInt32
  o : List UInt8
  ps : List (Nat × UInt8)
def byteOf (x : UInt32) : UInt8 := UInt8.ofNat (1 + x.toNat % 255)
def stepP (n : Nat) (S : PS) : PS :=
  ⟨next32 (next32 S.x), S.o.set (pr S.o n ((next32 S.x).toNat % n) 0 n) (byteOf (next32 (next32 S.x))), S.ps ++ [(pr S.o n ((next32 S.x).toNat % n) 0 n, byteOf (next32 (next32 S.x)))]⟩
def runP (n : Nat) (x0 : UInt32) : Nat → PS
  | 0 => ⟨x0, List.replicate n 0, []⟩
  | i + 1 => stepP n (runP n x0 i)
theorem byteOf_ne (x : UInt32) : byteOf x ≠ 0 := by
  intro h
  have h1 : (byteOf x).toNat = 0 := by rw [h]; rfl
  simp [byteOf] at h1
  omega
theorem byteOf_nat (x : UInt32) : (byteOf x).toNat = 1 + x.toNat % 255 := by simp [byteOf]; omega
theorem runP_len (n : Nat) (x0 : UInt32) : ∀ i, (runP n x0 i).o.length = n
  | 0 => by simp [runP]
  | i + 1 => by simp [runP, stepP, runP_len n x0 i]
/-- how many are taken -/
def took (o : List UInt8) : Nat := o.countP (fun b => b != 0)
theorem runP_took (n : Nat) (x0 : UInt32) : ∀ i, took (runP n x0 i).o ≤ i
  | 0 => by
    show List.countP _ (List.replicate n 0) ≤ 0
    simp [List.countP_replicate]
  | i + 1 => by
    have := runP_took n x0 i
    simp only [runP, stepP, took] at this ⊢
    generalize (runP n x0 i).o = o at *
    generalize pr o n _ 0 n = a
    by_cases ha : a < o.length
    · rw [List.countP_set (by exact ha)]
      split <;> split <;> omega
    · rw [List.set_eq_of_length_le (by omega)]; omega
theorem free_of (o : List UInt8) (n : Nat) (hl : o.length = n) (ht : took o < n) : ∃ b, b < n ∧ o.getD b 0 = 0 := by
  apply Classical.byContradiction
  intro hx
  have : took o = o.length := by
    unfold took
    rw [List.countP_eq_length]
    intro b hb
    obtain ⟨i, hi, rfl⟩ := List.mem_iff_getElem.1 hb
    have : o.getD i 0 ≠ 0 := fun he => hx ⟨i, by omega, he⟩
    rw [List.getD_eq_getElem?_getD, List.getElem?_eq_getElem hi] at this
    simpa using this
  omega
theorem free_at (o : List UInt8) (n a0 : Nat) (ha : a0 < n) (hf : ∃ b, b < n ∧ o.getD b 0 = 0) : ∃ ts, ts < n ∧ o.getD ((a0 + ts) % n) 0 = 0 := by
  obtain ⟨b, hb, ho⟩ := hf
  by_cases hab : a0 ≤ b
  · exact ⟨b - a0, by omega, by rw [show a0 + (b - a0) = b by omega, Nat.mod_eq_of_lt hb]; exact ho⟩
  · exact ⟨b + n - a0, by omega, by rw [show a0 + (b + n - a0) = b + n by omega, Nat.add_mod_right, Nat.mod_eq_of_lt hb]; exact ho⟩
theorem pr_step (o : List UInt8) (n a0 t : Nat) (ht : t < n) (hz : o.getD ((a0 + t) % n) 0 ≠ 0) : pr o n a0 t (n - t) = pr o n a0 (t + 1) (n - (t + 1)) := by
  rw [show n - t = (n - (t + 1)) + 1 by omega, pr, if_neg hz]
theorem pr_stop (o : List UInt8) (n a0 t : Nat) (ht : t < n) (hz : o.getD ((a0 + t) % n) 0 = 0) : pr o n a0 t (n - t) = (a0 + t) % n := by
  rw [show n - t = (n - (t + 1)) + 1 by omega, pr, if_pos hz]
/-- the place found is free -/
theorem pr_free (o : List UInt8) (n a0 ts : Nat) (hts : ts < n) (hz : o.getD ((a0 + ts) % n) 0 = 0) : ∀ m t, t + m = ts → pr o n a0 t (n - t) < n ∧ o.getD (pr o n a0 t (n - t)) 0 = 0
  | 0, t, h => by
    obtain rfl : t = ts := by omega
    rw [pr_stop o n a0 t hts hz]
    exact ⟨Nat.mod_lt _ (by omega), hz⟩
  | m + 1, t, h => by
    by_cases h0 : o.getD ((a0 + t) % n) 0 = 0
    · rw [pr_stop o n a0 t (by omega) h0]
      exact ⟨Nat.mod_lt _ (by omega), h0⟩
    · rw [pr_step o n a0 t (by omega) h0]
      exact pr_free o n a0 ts hts hz m (t + 1) (by omega)
/-- the state behind the degree's number -/
def x0of (k : Nat) (id : UInt32) : UInt32 := next32 (begin32 (seed32 k id))
def nof (k : Nat) : Nat := k + (sp k + 2)
def dof (k : Nat) (id : UInt32) : Nat := deg ((x0of k id).toNat % 1024) (nof k)
theorem deg_le (x n : Nat) (hn : 1 ≤ n) : deg x n ≤ n := by simp only [deg]; omega
theorem deg_small (x n : Nat) : deg x n ≤ 34 := by
  have : raw x ≤ 34 := by unfold raw; repeat' split
                          all_goals omega
  simp only [deg]; omega
def picked (k : Nat) (id : UInt32) : PS := runP (nof k) (x0of k id) (dof k id)
theorem V.addk {P : Program} {w0 : World} {n : Nat} {σ : Slots} {h : Heap} {ty t t' : TypeId} {k : IntKind} {x y : Operand} {a b : Int} (hx : ev n σ x = .int k a) (hy : ev n σ y = .int k b) (hr : k.wrap (a + b) = a + b) : V P w0 n σ h (.binOp .add t x y t') ty (.int k (a + b)) := by
  have := V.add (P := P) (w0 := w0) (h := h) (ty := ty) (t := t) (t' := t') hx hy; rwa [hr] at this
theorem rpicks_c (k : Nat) (id : UInt32) (h : Heap) (h1 : 1 ≤ k) (h2 : k ≤ 64) : Ret Try.prog 28 [.int .i64 (k : Int), u32v id] h (fun v h' => Own h' h.size 5 1 v (nof k) (bys (picked k id).o) ∧ Ext h h') := by
  refine Ret.enter Try.func28 rfl Try.ntmps28 (by show 2 ≤ 54; decide) fun w0 => ?_
  have hs : sp k ≤ 100 := by simp only [sp]; omega
  have hn : nof k = k + (sp k + 2) := rfl
  refine run ?_
  refine L.c1 rfl (rparities_c k h h1 h2) ?_
  rintro v hh1 ⟨o1, x1⟩
  obtain ⟨A1, c1, hv⟩ := o1.slice
  rw [pars_len] at hv
  subst hv
  have s1 := x1.size
  refine run ?_
  refine L.cq rfl (rseed_c k id hh1 (by omega)) ?_
  refine L.cq rfl (rbegin_c _ hh1) ?_
  refine L.cq rfl (rnext_c _ hh1) ?_
  refine run ?_
  refine L.do1 (D.mk' (l := nof k) (z := .int .u8 0) (int_eq (by omega)) (int_eq (by omega)) rfl (by omega) (by omega)) ?_
  rintro _ hh2 ⟨rfl, m2⟩
  have s2 := m2.size
  have x2 : Ext h hh2 := x1.trans m2.ext
  refine run ?_
  have ex : (((x0of k id).toUInt64.toNat : Int) % 1024) = (((x0of k id).toNat % 1024 : Nat) : Int) := by rw [UInt32.toNat_toUInt64]; push_cast; rfl
  have hd := rdegree_c ((x0of k id).toNat % 1024) (nof k) hh2 (Nat.mod_lt _ (by decide)) (by omega)
  rw [← ex] at hd
  have en : ((k : Int) + ((sp k + 2 : Nat) : Int)) = (nof k : Int) := by omega
  refine L.cq rfl (show RetQ _ _ [.int .u64 (((x0of k id).toUInt64.toNat : Int) % 1024), .int .i64 ((k : Int) + ((sp k + 2 : Nat) : Int))] _ _ from by rw [en]; exact hd) ?_
  have hdn : dof k id ≤ nof k := deg_le _ _ (by omega)
  have hd34 : dof k id ≤ 34 := deg_small _ _
  refine run ?_
  refine C.loopv (fun m l h' => ∃ i, i ≤ dof k id ∧ m = dof k id - i ∧ Mods (fun b => b = hh1.size) hh2 h' ∧ Blk h' hh1.size (bys (runP (nof k) (x0of k id) i).o) 5 ∧
    l = [(5, .int .i64 (nof k : Int)), (6, u64v (runP (nof k) (x0of k id) i).x.toUInt64), (7, .slice (some ⟨hh1.size, 0, none⟩) (nof k) (nof k)), (24, .int .i64 (dof k id : Int)), (25, .int .i64 (i : Int))]) (dof k id) _
    ⟨0, by omega, by omega, Mods.refl _ _, by simp only [runP, bys_replicate]; exact m2.at_, rfl⟩ ⟨int_eq (by omega), rfl, rfl, rfl, rfl, trivial⟩ ?_
  rintro m l h' τ ⟨i, hi, rfl, hm, hb, rfl⟩
  have s3 := hm.size
  by_cases hlt : i < dof k id
  · have hol := runP_len (nof k) (x0of k id) i
    have hto := runP_took (nof k) (x0of k id) i
    have hst : runP (nof k) (x0of k id) (i + 1) = stepP (nof k) (runP (nof k) (x0of k id) i) := rfl
    generalize runP (nof k) (x0of k id) i = S at *
    obtain ⟨a0, ha0⟩ : ∃ a0, a0 = (next32 S.x).toNat % nof k := ⟨_, rfl⟩
    have ha0n : a0 < nof k := by rw [ha0]; exact Nat.mod_lt _ (by omega)
    obtain ⟨ts, hts, hz⟩ := free_at S.o (nof k) a0 ha0n (free_of S.o (nof k) hol (by omega))
    have e0 : (((next32 S.x).toUInt64.toNat : Int) % (nof k : Int)) = (((a0 + 0) % nof k : Nat) : Int) := by
      rw [UInt32.toNat_toUInt64, Nat.add_zero, Nat.mod_eq_of_lt ha0n, ha0]; push_cast; rfl
    refine run ?_
    have hb0 : (a0 + 0) % nof k < nof k := Nat.mod_lt _ (by omega)
    refine L.cq rfl (rnext_c _ h') ?_
    refine run ?_
    refine C.loopv (fun m l h'' => ∃ t, t ≤ ts ∧ m = ts - t ∧ h' = h'' ∧ pr S.o (nof k) a0 0 (nof k) = pr S.o (nof k) a0 t (nof k - t) ∧
      l = [(5, .int .i64 (nof k : Int)), (6, u64v (next32 S.x).toUInt64), (7, .slice (some ⟨hh1.size, 0, none⟩) (nof k) (nof k)), (8, .int .i64 (((a0 + t) % nof k : Nat) : Int)), (24, .int .i64 (dof k id : Int)), (25, .int .i64 (i : Int))]) ts _
      ⟨0, by omega, by omega, rfl, rfl, rfl⟩ ⟨rfl, rfl, rfl, int_eq e0, rfl, rfl, trivial⟩ ?_
    rintro m l h'' τ ⟨t, ht, rfl, rfl, hpr, rfl⟩
    have hat : (a0 + t) % nof k < nof k := Nat.mod_lt _ (by omega)
    have hnx : ((a0 + t) % nof k + 1) % nof k = (a0 + (t + 1)) % nof k := by rw [Nat.mod_add_mod]; rfl
    obtain ⟨a, hae⟩ : ∃ a, a = (a0 + t) % nof k := ⟨_, rfl⟩
    rw [← hae] at hat hnx ⊢
    have hcell : (bys S.o)[a]? = some (u8v (S.o.getD a 0)) := by
      rw [List.getD_eq_getElem?_getD, List.getElem?_eq_getElem (show a < S.o.length by omega)]
      simp only [bys, List.getElem?_map, List.getElem?_eq_getElem (show a < S.o.length by omega)]; rfl
    refine run ?_
    refine L.op (V.idx rfl rfl (by omega) (by omega)) ?_
    refine L.op (V.load (v := u8v (S.o.getD a 0)) rfl (by rw [add_lit, Blk.cell hb]; simpa using hcell)) ?_
    by_cases h0 : S.o.getD a 0 = 0
    · have h0' : ((S.o.getD a 0).toNat : Int) = 0 := by rw [h0]; rfl
      have hpa : pr S.o (nof k) a0 0 (nof k) = a := by rw [hpr, pr_stop _ _ _ _ (by omega) (by rw [← hae]; exact h0), hae]
      refine run ?_
      refine L.cq rfl (rnext_c _ h') ?_
      refine run ?_
      have er : (((next32 (next32 S.x)).toUInt64.toNat : Int) % 255) = (((next32 (next32 S.x)).toNat % 255 : Nat) : Int) := by rw [UInt32.toNat_toUInt64]; push_cast; rfl
      refine L.op (V.addk rfl (by exact int_eq er) (Go.IntWalk.u64_in _ (by omega))) ?_
      refine run ?_
      refine L.op (V.idx rfl rfl (by omega) (by omega)) ?_
      refine L.do0 (D.st (b := hh1.size) (o := a) (v := u8v (byteOf (next32 (next32 S.x)))) (by show Value.pointer (some (Addr.add ⟨hh1.size, 0, none⟩ ((a : Int).toNat * 1))) = _; rw [add_lit]; simp) (by exact int_eq (by rw [byteOf_nat]; omega)) rfl hb (by rw [bys_length]; omega)) ?_
      rintro _ h5 t5
      refine run ?_
      refine ⟨_, _, by omega, ⟨i + 1, by omega, rfl, hm.trans t5.mods, ?_, rfl⟩, rfl, ?_, rfl, rfl, int_eq (by omega), trivial⟩
      · have := t5.at_ (by omega)
        rw [bys_set] at this
        rw [hst]
        simp only [stepP, ← ha0, hpa]
        exact this
      · rw [hst]; rfl
    · have h0' : ((S.o.getD a 0).toNat : Int) ≠ 0 := by
        intro he; apply h0
        have : (S.o.getD a 0).toNat = 0 := by omega
        exact UInt8.toNat_inj.1 this
      have htt : t < ts := by
        rcases Nat.lt_or_ge t ts with hl | hl
        · exact hl
        · obtain rfl : t = ts := by omega
          rw [← hae] at hz; exact absurd hz h0
      have ern : (((a : Int) + 1) % (nof k : Int)) = (((a0 + (t + 1)) % nof k : Nat) : Int) := by rw [← hnx]; push_cast; rfl
      refine run ?_
      exact ⟨_, _, by omega, ⟨t + 1, by omega, rfl, rfl, by rw [hpr, pr_step _ _ _ _ (by omega) (by rw [← hae]; exact h0)], rfl⟩, rfl, rfl, rfl, int_eq ern, rfl, rfl, trivial⟩
  · obtain rfl : i = dof k id := by omega
    refine run ?_
    refine ret1 rfl (by constructor) ⟨⟨by simp [picked, runP_len], .inr ⟨hh1.size, nof k, (bys (picked k id).o).toArray, rfl, by omega, hb, Nat.le_refl _, by simp only [maxLen]; omega, by simp [picked, runP_len], ?_⟩⟩, ?_⟩
    · simp only [List.toList_toArray, Nat.mul_one]
      rw [List.take_of_length_le (by simp [picked, runP_len])]
    · exact Mods.ext x2 hm (fun b hb he => by omega)
end Go.Proofs.Ytdphoegigdpboaa.E
