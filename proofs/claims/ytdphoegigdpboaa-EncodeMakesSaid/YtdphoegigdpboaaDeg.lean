/-
  rand.Degree: by the table.
-/
import Derived.Test.YtdphoegigdpboaaRef3
set_option linter.unusedVariables false
set_option linter.unusedSimpArgs false
namespace Go.Proofs.Ytdphoegigdpboaa.E
open Go Go.Proofs
set_option maxRecDepth 100000
def thr (i : Nat) : Nat := [16, 528, 696, 780, 860, 930, 980].getD i 0
def dgr (i : Nat) : Nat := [1, 2, 3, 4, 6, 10, 18].getD i 0
def tabl : List Value := [.int .u32 16, .int .u32 1, .int .u32 528, .int .u32 2, .int .u32 696, .int .u32 3, .int .u32 780, .int .u32 4, .int .u32 860, .int .u32 6, .int .u32 930, .int .u32 10, .int .u32 980, .int .u32 18]
theorem tabl_get (i : Nat) (hi : i < 7) : tabl[2 * i]? = some (.int .u32 (thr i : Int)) ∧ tabl[2 * i + 1]? = some (.int .u32 (dgr i : Int)) := by
  rcases (by omega : i = 0 ∨ i = 1 ∨ i = 2 ∨ i = 3 ∨ i = 4 ∨ i = 5 ∨ i = 6) with rfl | rfl | rfl | rfl | rfl | rfl | rfl <;> exact ⟨rfl, rfl⟩
theorem raw_at (x i : Nat) (hi : i < 7) (h1 : ∀ j, j < i → thr j ≤ x) (h2 : x < thr i) : raw x = dgr i := by
  have g := fun j => h1 j
  rcases (by omega : i = 0 ∨ i = 1 ∨ i = 2 ∨ i = 3 ∨ i = 4 ∨ i = 5 ∨ i = 6) with rfl | rfl | rfl | rfl | rfl | rfl | rfl
  all_goals
    have g0 := h1 0; have g1 := h1 1; have g2 := h1 2; have g3 := h1 3; have g4 := h1 4; have g5 := h1 5
    simp only [thr, List.getD_cons_zero, List.getD_cons_succ] at g0 g1 g2 g3 g4 g5 h2
    simp only [dgr, List.getD_cons_zero, List.getD_cons_succ]
    unfold raw
    repeat' split
    all_goals omega
theorem raw_end (x : Nat) (h1 : ∀ j, j < 7 → thr j ≤ x) : raw x = 34 := by
  have g0 := h1 0; have g1 := h1 1; have g2 := h1 2; have g3 := h1 3; have g4 := h1 4; have g5 := h1 5; have g6 := h1 6
  simp only [thr, List.getD_cons_zero, List.getD_cons_succ] at g0 g1 g2 g3 g4 g5 g6
  unfold raw
  repeat' split
  all_goals omega
theorem thr_lt (i : Nat) (hi : i < 7) : thr i < 1024 ∧ dgr i < 1024 := by
  rcases (by omega : i = 0 ∨ i = 1 ∨ i = 2 ∨ i = 3 ∨ i = 4 ∨ i = 5 ∨ i = 6) with rfl | rfl | rfl | rfl | rfl | rfl | rfl <;> decide
theorem degree_c (b : Nat) (s : UInt32) (m : Nat) (h : Heap) (hb : Blk h b [u32v s] 121) (hm : 1 ≤ m) (hm2 : m ≤ 1000000) :
    Ret Try.prog 73 [.pointer (some ⟨b, 0, none⟩), .int .i64 (m : Int)] h (fun v h' => v = .int .i64 (deg ((next32 s).toNat % 1024) m : Int) ∧ Mods (fun k => k = b) h h' ∧ Blk h' b [u32v (next32 s)] 121) := by
  refine Ret.enter Try.func73 rfl Try.ntmps73 (by show 2 ≤ 41; decide) fun w0 => ?_
  refine run ?_
  refine L.op (V.buildA (vals := [(0, .int .u32 16), (1, .int .u32 1)]) (cells := [.int .u32 16, .int .u32 1]) rfl rfl rfl) ?_
  refine L.op (V.buildA (vals := [(0, .int .u32 528), (1, .int .u32 2)]) (cells := [.int .u32 528, .int .u32 2]) rfl rfl rfl) ?_
  refine L.op (V.buildA (vals := [(0, .int .u32 696), (1, .int .u32 3)]) (cells := [.int .u32 696, .int .u32 3]) rfl rfl rfl) ?_
  refine L.op (V.buildA (vals := [(0, .int .u32 780), (1, .int .u32 4)]) (cells := [.int .u32 780, .int .u32 4]) rfl rfl rfl) ?_
  refine L.op (V.buildA (vals := [(0, .int .u32 860), (1, .int .u32 6)]) (cells := [.int .u32 860, .int .u32 6]) rfl rfl rfl) ?_
  refine L.op (V.buildA (vals := [(0, .int .u32 930), (1, .int .u32 10)]) (cells := [.int .u32 930, .int .u32 10]) rfl rfl rfl) ?_
  refine L.op (V.buildA (vals := [(0, .int .u32 980), (1, .int .u32 18)]) (cells := [.int .u32 980, .int .u32 18]) rfl rfl rfl) ?_
  refine L.do1 (D.bslice (cells := tabl) (vals := [(0, .agg #[.int .u32 16, .int .u32 1]), (1, .agg #[.int .u32 528, .int .u32 2]), (2, .agg #[.int .u32 696, .int .u32 3]), (3, .agg #[.int .u32 780, .int .u32 4]), (4, .agg #[.int .u32 860, .int .u32 6]), (5, .agg #[.int .u32 930, .int .u32 10]), (6, .agg #[.int .u32 980, .int .u32 18])]) rfl rfl (by decide) rfl) ?_
  rintro _ h1 ⟨rfl, e1⟩
  have m1 : New h h1 (.cells tabl.toArray 122) := ⟨e1⟩
  have s1 := m1.size
  refine run ?_
  refine L.c1 rfl (next_c b s h1 (m1.ext.at hb)) ?_
  rintro _ h2 ⟨rfl, t2⟩
  have s2 := t2.size
  have hbl := hb.lt
  have b2 : Blk h2 b [u32v (next32 s)] 121 := t2.at_ (by omega)
  have tb2 : Blk h2 h.size tabl 122 := by have := m1.at_; unfold Blk; rw [t2.other (by omega)]; exact this
  have mm2 : Mods (fun k => k = b) h h2 := m1.ext.mods.trans t2.mods
  obtain ⟨x, hx⟩ : ∃ x, x = (next32 s).toNat % 1024 := ⟨_, rfl⟩
  have ex : ((next32 s).toNat : Int) % 1024 = (x : Int) := by omega
  rw [← hx]
  refine run ?_
  refine C.loopv (fun k l h' => ∃ i, i ≤ 7 ∧ k = 7 - i ∧ Ext h2 h' ∧ (∀ j, j < i → thr j ≤ x) ∧
    l = [(1, .int .i64 (m : Int)), (6, .int .u32 (x : Int)), (7, .int .i64 34), (23, .slice (some ⟨h.size, 0, none⟩) 7 7), (24, .int .i64 7), (25, .int .i64 (i : Int))]) 7 _
    ⟨0, by omega, by omega, Mods.refl _ _, fun j hj => by omega, rfl⟩ ⟨rfl, int_eq ex, rfl, rfl, rfl, rfl, trivial⟩ ?_
  rintro k l h' τ ⟨i, hi, rfl, hx', hall, rfl⟩
  by_cases hlt : i < 7
  · obtain ⟨g1, g2⟩ := tabl_get i hlt
    obtain ⟨l1, l2⟩ := thr_lt i hlt
    have s3 := hx'.size
    refine run ?_
    refine L.op (V.idx rfl rfl (by omega) (by omega)) ?_
    refine L.op (V.loada (vs := [.int .u32 (thr i : Int), .int .u32 (dgr i : Int)]) rfl rfl (fun j hj => by
      have hj' : j < 2 := by simpa using hj
      have hbk := hx'.at tb2
      rw [add_lit, add_lit, Blk.cell hbk]
      rcases (by omega : j = 0 ∨ j = 1) with rfl | rfl
      · have : 0 + (i : Int).toNat * 2 + 0 = 2 * i := by omega
        rw [this, g1]; rfl
      · have : 0 + (i : Int).toNat * 2 + 1 = 2 * i + 1 := by omega
        rw [this, g2]; rfl)) ?_
    refine L.do1 (D.al (cs := [.int .u32 0, .int .u32 0]) rfl) ?_
    rintro _ h4 ⟨rfl, m4⟩
    have s4 := m4.size
    refine L.do0 (D.sta (b := h'.size) (cs := [.int .u32 0, .int .u32 0]) (vs := [.int .u32 (thr i : Int), .int .u32 (dgr i : Int)]) rfl rfl rfl (by intro v hv; simp at hv; rcases hv with rfl | rfl <;> rfl) m4.at_ rfl) ?_
    rintro _ h5 t5
    have s5 := t5.size
    have x5 : Ext h2 h5 := Mods.ext (hx'.trans m4.ext) t5.mods (fun b hb he => by omega)
    have b5 : Blk h5 h'.size [.int .u32 (thr i : Int), .int .u32 (dgr i : Int)] 122 := t5.at_ (by omega)
    refine run ?_
    refine L.op (V.idxa rfl rfl (by decide) (by decide)) ?_
    refine L.op (V.load (v := .int .u32 (thr i : Int)) rfl (by rw [add_lit, Blk.cell b5]; rfl)) ?_
    by_cases hf : x < thr i
    · refine run ?_
      refine L.op (V.idxa rfl rfl (by decide) (by decide)) ?_
      refine L.op (V.load (v := .int .u32 (dgr i : Int)) rfl (by rw [add_lit, Blk.cell b5]; rfl)) ?_
      have hr := raw_at x i hlt hall hf
      refine run ?_
      refine ret1 rfl (by constructor) ⟨int_eq (by simp only [deg, hr]; omega), mm2.trans x5.mods, x5.at b2⟩
    · refine run ?_
      refine ⟨_, _, by omega, ⟨i + 1, by omega, rfl, x5, fun j hj => ?_, rfl⟩, rfl, rfl, rfl, rfl, rfl, int_eq (by omega), trivial⟩
      by_cases hji : j = i
      · subst hji; omega
      · exact hall j (by omega)
  · obtain rfl : i = 7 := by omega
    have hr := raw_end x hall
    refine run ?_
    exact ret1 rfl (by constructor) ⟨int_eq (by simp only [deg, hr]; omega), mm2.trans hx'.mods, hx'.at b2⟩
end Go.Proofs.Ytdphoegigdpboaa.E
