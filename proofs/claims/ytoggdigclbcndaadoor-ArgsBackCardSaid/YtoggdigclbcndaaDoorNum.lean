/-
  Numbers as texts: strconv.FormatUint at base 10; args.number, args.within.
-/
import Derived.Test.YtoggdigclbcndaaDoorPath4
import Derived.Test.YtoggdigclbcndaaDoorShelf2
set_option linter.unusedVariables false
set_option linter.unusedSimpArgs false
namespace Go.Proofs.YtoggdigclbcndaaDoor.E
open Go Go.Proofs Go.RowKit
open Go.Sort (putRow grow cell?_putRow putRow_grow_new)
set_option maxRecDepth 100000
theorem rowp_cells {w : World} {a : Addr} {vs : List Value} (h : ∀ i, i < vs.length → w.cell? (a.add i) = vs[i]?) : RowP (fun _ => True) w.heap (some a) vs := by
  by_cases h0 : vs.length = 0
  · exact .inl (List.eq_nil_of_length_eq_zero h0)
  · have h1 := h 0 (by omega)
    rw [List.getElem?_eq_getElem (by omega)] at h1
    have hs := World.cell?_spot h1
    obtain ⟨b, o, s⟩ := a
    have hsp : s = none := by simpa [Addr.add] using hs
    subst hsp
    rw [add_lit, Nat.add_zero] at h1
    have h2 : cellH w.heap ⟨b, o, none⟩ = some (vs[0]'(by omega)) := h1
    unfold cellH at h2
    cases hb : w.heap[b]? with
    | none => simp only [hb] at h2; cases h2
    | some ob =>
      cases ob with
      | cells cs t z =>
        refine .inr ⟨b, o, cs, t, z, rfl, trivial, hb, fun i hi => ?_⟩
        have h3 : cellH w.heap ((⟨b, o, none⟩ : Addr).add i) = vs[i]? := h i hi
        rw [add_lit] at h3
        rw [← h3]; simp [cellH, hb]
      | _ => simp only [hb] at h2; cases h2
theorem nd_le {u : Nat} (h1 : 1 ≤ u) (h2 : u < 18446744073709551616) : Lib.nDigits u ≤ 20 := by
  have := Lib.numDigits_eq u h1 h2; split at this <;> omega
theorem fb10_c (u : Nat) (h h1 : Heap) (t : TypeId) (n1 : New h h1 (.cells (List.replicate 24 (.int .u8 0)).toArray t)) (hu1 : 1 ≤ u) (hu : u < 18446744073709551616) :
    Ret Tryd.prog 68 [.slice (some ⟨h.size, 0, none⟩) (Lib.nDigits u) 24, .int .u64 (u : Int)] h1 (fun v h' => v = .tuple #[] ∧ Ext h h' ∧ RowP (fun _ => True) h' (some ⟨h.size, 0, none⟩) (bys (Lib.decDigits u))) := by
  intro w hw
  have hnd := nd_le hu1 hu
  have hb := n1.at_
  have hH : Go.Sort.Holds (fun (b : UInt8) => Value.int .u8 (b.toNat : Int)) w h.size 0 (Array.replicate (Lib.nDigits u) (0 : UInt8)) := by
    intro j hj
    have hj' : j < Lib.nDigits u := by simpa using hj
    refine ⟨?_, ?_⟩
    · rw [cellH_eq', hw]
      unfold cellH
      simp only [hb]
      rw [getElem!_pos _ j hj]
      have h24 : 0 + j < 24 := by omega
      have e1 : (List.replicate 24 (Value.int .u8 0)).toArray[0 + j]? = some (.int .u8 0) := by rw [List.getElem?_toArray, List.getElem?_replicate, if_pos h24]
      simp only [Array.getElem_replicate]
      exact e1
    · simp [World.frozen?, hw, hb]
  have hc := Tryd.internal_strconv_formatBase10 h.size 0 24 u (Array.replicate (Lib.nDigits u) 0) w hH (by rw [Array.size_replicate]; exact Lib.lt_pow_nDigits u) hu (by rw [Array.size_replicate]; omega)
  rw [Array.size_replicate] at hc
  refine hc.mono ?_
  rintro e w' ⟨rfl, k, v', dk, rfl, hF⟩
  have hwx : w = grow { w with heap := h } #[.cells (List.replicate 24 (.int .u8 0)).toArray t] := by
    cases w
    simp only at hw
    subst hw
    unfold grow
    rw [n1.eq]; simp
  obtain ⟨os', _, he⟩ := putRow_grow_new (fun (b : UInt8) => Value.int .u8 (b.toNat : Int)) { w with heap := h } #[.cells (List.replicate 24 (.int .u8 0)).toArray t] h.size 0 dk (Nat.le_refl _)
  rw [← hwx] at he
  have hcell : ∀ i, i < (bys (Lib.decDigits u)).length → ((putRow (fun (b : UInt8) => Value.int .u8 (b.toNat : Int)) w h.size 0 dk).drewN k).cell? ((⟨h.size, 0, none⟩ : Addr).add i) = (bys (Lib.decDigits u))[i]? := by
    intro i hi
    have hi' : i < (Lib.decDigits u).length := by simpa using hi
    have hi2 : i < Lib.nDigits u := by rw [Lib.decDigits_length] at hi'; exact hi'
    rw [World.cell?_drewN, add_lit]
    have := cell?_putRow (fun (b : UInt8) => Value.int .u8 (b.toNat : Int)) w h.size 0 _ dk hH (by rw [hF.size, Array.size_replicate]) i (by rw [hF.size]; exact hi2)
    rw [this, ← Lib.row_is_numeral hF i hi']
    simp [bys, hi']
  have hrow := rowp_cells hcell
  refine ⟨_, rfl, ((putRow (fun (b : UInt8) => Value.int .u8 (b.toNat : Int)) w h.size 0 dk).drewN k).heap, ((putRow (fun (b : UInt8) => Value.int .u8 (b.toNat : Int)) w h.size 0 dk).drewN k).drawn, ?_, rfl, ?_, hrow⟩
  · refine wld_eta ?_ ?_ ?_ <;> (rw [he]; rfl)
  · rw [he]
    refine ⟨?_, fun i hi _ => ?_⟩
    · simp [grow, World.drewN]
    · simp [grow, World.drewN, Array.getElem?_append, hi]
section
variable {P : Program} {w0 : World} {n : Nat} {σ : Slots} {h : Heap} {ty : TypeId}
/-- a part of an array that is a variable -/
theorem V.cutA {t e sz by_ len : Nat} {x : Operand} {lo hi : Option Operand} {a : Addr} {i j : Nat} [ht : ArrT P t len e] [hi' : InfoT P e sz by_] (hx : ev n σ x = .pointer (some a))
    (hlo : lo.map (ev n σ) = none ∧ i = 0 ∨ ∃ k, lo.map (ev n σ) = some (.int k (i : Int))) (hhi : hi.map (ev n σ) = none ∧ j = len ∨ ∃ k, hi.map (ev n σ) = some (.int k (j : Int))) (h1 : i ≤ j) (h2 : j ≤ len) :
    V P w0 n σ h (.slice t x lo hi none) ty (.slice (some (if len = i then a else a.add (i * sz))) (j - i) (len - i)) :=
  .intro fun w o _ ho _ => by
    have hj : (0 : Int) ≤ (j : Int) ∧ (j : Int) ≤ (len : Int) := by omega
    have hi0 : (0 : Int) ≤ (i : Int) ∧ (i : Int) ≤ (j : Int) := by omega
    rcases hlo with ⟨hlo, rfl⟩ | ⟨k, hlo⟩ <;> rcases hhi with ⟨hhi, rfl⟩ | ⟨k', hhi⟩ <;>
      simp [execOp, ho, hx, hlo, hhi, Instr.sliceAt, run_underlying ht.out, Instr.slice, Instr.sliceBounds, Instr.sliceBound, asIntOf, Instr.sureAddr, run_sizeOf, hj, hi0, h1, h2]
end
theorem small_c (u : Nat) (h : Heap) (hu : u < 100) : RetQ Tryd.prog 66 [.int .i64 (u : Int)] h (S (Lib.decDigits u)) :=
  .of_same fun w _ => Tryd.internal_strconv_small u hu w
theorem numDigits_c (u : Nat) (h : Heap) (hV : Vars h) (hu1 : 1 ≤ u) (hu : u < 18446744073709551616) : RetQ Tryd.prog 67 [.int .u64 (u : Int)] h (.int .i64 (Lib.nDigits u : Int)) :=
  .of_same fun w hw => Tryd.internal_strconv_numDigits u hu1 hu w (hV.pow w hw)
theorem ifmtU_c (u : Nat) (h : Heap) (hV : Vars h) (hu : u < 18446744073709551616) : Ret Tryd.prog 53 [.int .u64 (u : Int), .int .i64 10] h (fun v h' => v = S (Lib.decDigits u) ∧ Ext h h') := by
  refine Ret.enter Tryd.func53 rfl Tryd.ntmps53 (by show 2 ≤ 32; decide) fun w0 => ?_
  by_cases h1 : u < 100
  · refine run ?_
    refine L.cq rfl (small_c u h h1) ?_
    refine run ?_
    exact ret1 rfl (by constructor) ⟨rfl, Mods.refl _ _⟩
  · have hu1 : 1 ≤ u := by omega
    have hnd := nd_le hu1 hu
    refine run ?_
    refine L.do1 (D.al (cs := List.replicate 24 (.int .u8 0)) rfl) ?_
    rintro _ h1 ⟨rfl, n1⟩
    refine run ?_
    refine L.cq rfl (numDigits_c u h1 (hV.ext n1.ext) hu1 hu) ?_
    refine run ?_
    refine L.op (V.cutA (i := 0) (j := Lib.nDigits u) rfl (.inl ⟨rfl, rfl⟩) (.inr ⟨.i64, rfl⟩) (Nat.zero_le _) (by omega)) ?_
    refine run ?_
    have e1 : (if (24 : Nat) = 0 then (⟨h.size, 0, none⟩ : Addr) else (⟨h.size, 0, none⟩ : Addr).add (0 * 1)) = ⟨h.size, 0, none⟩ := by rw [if_neg (by decide)]; exact add_lit _ _ _
    rw [e1, Nat.sub_zero, Nat.sub_zero]
    have hfb := fb10_c u h h1 _ n1 hu1 hu
    have hdl : (Lib.decDigits u).length = Lib.nDigits u := Lib.decDigits_length u
    generalize Lib.nDigits u = nd at *
    refine L.c1 rfl hfb ?_
    rintro _ h2 ⟨rfl, x2, r2⟩
    refine run ?_
    refine L.op (V.cutA (i := 0) (j := nd) rfl (.inl ⟨rfl, rfl⟩) (.inr ⟨.i64, rfl⟩) (Nat.zero_le _) (by omega)) ?_
    rw [e1, Nat.sub_zero, Nat.sub_zero]
    refine L.op (V.strS (bs := Lib.decDigits u) (c := 24) (A := some ⟨h.size, 0, none⟩) (by rw [hdl]; exact Eq.refl _) r2) ?_
    refine run ?_
    exact ret1 rfl (by constructor) ⟨rfl, x2⟩
theorem fmtU_c (u : Nat) (h : Heap) (hV : Vars h) (hu : u < 18446744073709551616) : Ret Tryd.prog 38 [.int .u64 (u : Int), .int .i64 10] h (fun v h' => v = S (Lib.decDigits u) ∧ Ext h h') := by
  refine Ret.enter Tryd.func38 rfl Tryd.ntmps38 (by show 2 ≤ 8; decide) fun w0 => ?_
  refine run ?_
  refine L.c1 rfl (ifmtU_c u h hV hu) ?_
  rintro _ h1 ⟨rfl, x1⟩
  refine run ?_
  exact ret1 rfl (by constructor) ⟨rfl, x1⟩
/-! args.number, within -/
def PuR (l : List UInt8) (v : Value) : Prop := ∃ (u : Nat) (e : Value), v = .tuple #[.int .u64 (u : Int), e] ∧ ((Lib.parseUintB 32 l = .ok u ∧ e = .nilIface) ∨ ((∀ m, Lib.parseUintB 32 l ≠ .ok m) ∧ ∃ t p, e = .iface t p))
theorem parseU_c (l : List UInt8) (h : Heap) (hV : Vars h) (hl : l.length ≤ 281474976710656) : Ret Tryd.prog 57 [S l, .int .i64 10, .int .i64 32] h (fun v h' => PuR l v ∧ Ext h h') := by
  have hs : (⟨l.toArray⟩ : ByteArray).size = l.length := S_size l
  have hd : (⟨l.toArray⟩ : ByteArray).data.toList = l := by simp
  refine Ret.of_below fun w hw => ?_
  cases ha : Lib.parseUintB 32 l with
  | ok m =>
    refine (Tryd.strconv_ParseUint_10_at32_ok ⟨l.toArray⟩ (by omega) m (by rw [hd]; exact ha) w).mono fun e w' ⟨he, hw'⟩ => ⟨⟨_, he, m, _, rfl, .inl ⟨ha, rfl⟩⟩, ?_⟩
    rcases hw' with rfl | rfl
    · exact Below.refl _ _
    · exact below_bytes _ _ _
  | range =>
    obtain ⟨t, p, hc⟩ := hV.errR
    exact (Tryd.strconv_ParseUint_10_at32_range ⟨l.toArray⟩ (by omega) (by rw [hd]; exact ha) (.iface t p) w (by rw [cellH_eq', hw]; exact hc) (.inr ⟨t, p, rfl⟩)).mono fun e w' ⟨N, he, _, _, hb⟩ => ⟨⟨_, he, 4294967295, _, rfl, .inr ⟨fun m' hm => (by rw [ha] at hm; cases hm), _, _, rfl⟩⟩, hb⟩
  | _ =>
    obtain ⟨t, p, hc⟩ := hV.errS
    exact (Any.strconv_ParseUint_10_at32_syntax Tryd.laysPu14 ⟨l.toArray⟩ (by omega) (by rw [hd]; exact ha) (.iface t p) w (by rw [cellH_eq', hw]; exact hc) (.inr ⟨t, p, rfl⟩)).mono fun e w' ⟨N, he, _, _, hb⟩ => ⟨⟨_, he, 0, _, rfl, .inr ⟨fun m' hm => (by rw [ha] at hm; cases hm), _, _, rfl⟩⟩, hb⟩
/-- a number's text, of 32 bits; below 0: it is none's -/
def numU (l : List UInt8) : Int :=
  match Lib.parseUintB 32 l with
  | .ok u => if Lib.decDigits u = l then (u : Int) else -1
  | _ => -1
theorem numU_le (l : List UInt8) : -1 ≤ numU l ∧ numU l ≤ 4294967295 := by
  unfold numU
  cases ha : Lib.parseUintB 32 l with
  | ok u =>
    have := Lib.parseUintB_le ha
    simp only
    split <;> omega
  | _ => simp
theorem number32_c (l : List UInt8) (h : Heap) (hV : Vars h) (hl : l.length ≤ 281474976710656) : Ret Tryd.prog 42 [S l] h (fun v h' => v = .int .i64 (numU l) ∧ Ext h h') := by
  refine Ret.enter Tryd.func42 rfl Tryd.ntmps42 (by show 1 ≤ 20; decide) fun w0 => ?_
  refine run ?_
  refine L.c1 rfl (parseU_c l h hV hl) ?_
  rintro _ h1 ⟨⟨u, e, rfl, hne⟩, x1⟩
  unfold numU
  rcases hne with ⟨ha, rfl⟩ | ⟨ha, t, p, rfl⟩
  · have hu := Lib.parseUintB_le ha
    rw [ha]
    refine run ?_
    refine L.c1g rfl rfl rfl (fmtU_c u h1 (hV.ext x1) (by omega)) ?_
    rintro _ h2 ⟨rfl, x2⟩
    by_cases hd : Lib.decDigits u = l
    · refine run ?_
      exact ret1 rfl (by constructor) ⟨by simp [hd], x1.trans x2⟩
    · refine run ?_
      exact ret1 rfl (by constructor) ⟨by simp [hd], x1.trans x2⟩
  · refine run ?_
    refine ret1 rfl (by constructor) ⟨?_, x1⟩
    cases hx : Lib.parseUintB 32 l with
    | ok m => exact absurd hx (ha m)
    | _ => simp
theorem within_c (n a b : Int) (h : Heap) : RetQ Tryd.prog 43 [.int .i64 n, .int .i64 a, .int .i64 b] h (.bool (decide (a ≤ n ∧ n ≤ b))) := by
  refine Ret.quiet (Ret.enter Tryd.func43 rfl Tryd.ntmps43 (by show 3 ≤ 15; decide) fun w0 => ?_)
  by_cases h1 : a ≤ n
  · by_cases h2 : n ≤ b
    · rw [decide_eq_true ⟨h1, h2⟩]
      refine run ?_
      exact ret1 rfl (by constructor) ⟨rfl, rfl⟩
    · rw [decide_eq_false (by omega)]
      refine run ?_
      exact ret1 rfl (by constructor) ⟨rfl, rfl⟩
  · rw [decide_eq_false (by omega)]
    refine run ?_
    exact ret1 rfl (by constructor) ⟨rfl, rfl⟩
end Go.Proofs.YtoggdigclbcndaaDoor.E
