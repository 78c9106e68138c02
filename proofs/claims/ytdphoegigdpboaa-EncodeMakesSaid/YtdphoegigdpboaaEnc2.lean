/-
  encode.symbol, Symbol, Symbols.
-/
import Derived.Test.YtdphoegigdpboaaEnc
set_option linter.unusedVariables false
set_option linter.unusedSimpArgs false
namespace Go.Proofs.Ytdphoegigdpboaa.E
open Go Go.Proofs
set_option maxRecDepth 100000
/-- the sum of picked rows: the first i picks -/
def symP (m : Nat) (L : List (List UInt8)) (ps : List (Nat × UInt8)) : List UInt8 := ps.foldl (fun p x => axpy p (L.getD x.1 []) x.2) (List.replicate m 0)
theorem symP_snoc (m : Nat) (L : List (List UInt8)) (ps : List (Nat × UInt8)) (x : Nat × UInt8) : symP m L (ps ++ [x]) = axpy (symP m L ps) (L.getD x.1 []) x.2 := by simp [symP]
theorem symP_len_aux (m : Nat) (LL : List (List UInt8)) (hL : ∀ x ∈ LL, x.length = m) : ∀ (ps : List (Nat × UInt8)) (p : List UInt8), p.length = m → (∀ x ∈ ps, x.1 < LL.length) → (ps.foldl (fun p x => axpy p (LL.getD x.1 []) x.2) p).length = m
  | [], p, hp, _ => hp
  | x :: ps, p, hp, hx => by
    have h2 : x.1 < LL.length := hx x (by simp)
    refine symP_len_aux m LL hL ps _ ?_ (fun y hy => hx y (by simp [hy]))
    rw [axpy_len _ _ _ (by rw [hp, List.getD_eq_getElem?_getD, List.getElem?_eq_getElem h2]; exact (hL _ (List.getElem_mem h2)).symm), hp]
theorem symP_len (m : Nat) (LL : List (List UInt8)) (hL : ∀ x ∈ LL, x.length = m) (ps : List (Nat × UInt8)) (hx : ∀ x ∈ ps, x.1 < LL.length) : (symP m LL ps).length = m :=
  symP_len_aux m LL hL ps _ (by simp) hx
theorem symbol_c {p : Nat → Prop} (B : Option Addr) (cb : Nat) (k m : Nat) (id : UInt32) (LL : List (List UInt8)) (h : Heap) (h1 : 1 ≤ k) (h2 : k ≤ 64) (hm : m ≤ 256) (hB : Bss p h B LL) (hl : LL.length = nof k) (hL : ∀ x ∈ LL, x.length = m)
    (hpk : ∀ x ∈ (picked k id).ps, x.1 < nof k) :
    Ret Try.prog 25 [.agg (encC k m (.slice B (nof k) cb)).toArray, u32v id] h (fun v h' => (∃ ps, ps.Perm (picked k id).ps ∧ BsP (fun b => h.size ≤ b) h' v (symP m LL ps)) ∧ Ext h h') := by
  refine Ret.enter Try.func25 rfl Try.ntmps25 (by show 2 ≤ 35; decide) fun w0 => ?_
  refine run ?_
  refine L.do1 (D.bx (v := .agg (encC k m (.slice B (nof k) cb)).toArray) (cs := encC k m (.slice B (nof k) cb)) rfl rfl) ?_
  rintro _ hh1 ⟨rfl, m1⟩
  have s1 := m1.size
  have e1 : Blk hh1 h.size (encC k m (.slice B (nof k) cb)) 56 := m1.at_
  refine run ?_
  refine L.op (V.load (v := .int .i64 (m : Int)) rfl (by have := Blk.cell e1 1; simpa [encC] using this)) ?_
  refine run ?_
  refine L.do1 (D.mk' (l := m) (z := .int .u8 0) rfl rfl rfl (by omega) (by omega)) ?_
  rintro _ hh2 ⟨rfl, m2⟩
  have s2 := m2.size
  have e2 : Blk hh2 h.size (encC k m (.slice B (nof k) cb)) 56 := m2.ext.at e1
  refine run ?_
  refine L.op (V.load (v := .int .i64 (k : Int)) rfl (by have := Blk.cell e2 0; simpa [encC] using this)) ?_
  refine run ?_
  refine L.c1 rfl (picks_c sort_ok k id hh2 h1 h2) ?_
  rintro _ hh3 ⟨CC, cc, ps, rfl, hperm, rP, x3⟩
  have s3 := x3.size
  have hpl := hperm.length_eq
  have hps : (picked k id).ps.length = dof k id := runP_ps_len _ _ _
  have hd34 : dof k id ≤ 34 := deg_small _ _
  have hpk' : ∀ x ∈ ps, x.1 < nof k := fun x hx => hpk x (hperm.mem_iff.1 hx)
  have e3 : Blk hh3 h.size (encC k m (.slice B (nof k) cb)) 56 := x3.at e2
  have xh3 : Ext h hh3 := (m1.ext.trans m2.ext).trans x3
  have b0 : BsP (fun b => h.size ≤ b) hh3 (.slice (some ⟨hh1.size, 0, none⟩) m m) (symP m LL (ps.take 0)) := by
    have o : Own hh2 hh1.size 5 1 (.slice (some ⟨hh1.size, 0, none⟩) m m) m (bys (List.replicate m 0)) := by
      rw [bys_replicate]; exact m2.made (Nat.le_refl _) (by simp) (by simp only [maxLen]; omega)
    exact (o.ext x3).bsq (fun b hb _ => by omega)
  refine run ?_
  refine C.loopv (fun n l h' => ∃ i v, i ≤ ps.length ∧ n = ps.length - i ∧ (BsP (fun b => h.size ≤ b) h' v (symP m LL (ps.take i)) ∧ ∃ A c, v = .slice A m c) ∧ Ext hh3 h' ∧
    l = [(2, .pointer (some ⟨h.size, 0, none⟩)), (5, v), (14, .slice CC ps.length cc), (15, .int .i64 (ps.length : Int)), (16, .int .i64 (i : Int))]) ps.length _
    ⟨0, _, by omega, by omega, ⟨b0, _, _, rfl⟩, Mods.refl _ _, rfl⟩ ⟨rfl, rfl, rfl, rfl, rfl, trivial⟩ ?_
  rintro n l h' τ ⟨i, v, hi, rfl, ⟨hv, A5, c5, rfl⟩, hx, rfl⟩
  have s4 := hx.size
  by_cases hlt : i < ps.length
  · obtain ⟨g1, g2⟩ := flat_get ps i hlt
    have hat : ps[i].1 < nof k := hpk' _ (List.getElem_mem hlt)
    have hlen := symP_len m LL hL (ps.take i) (fun x hx => by rw [hl]; exact hpk' x (List.mem_of_mem_take hx))
    have rP' : RowP (fun b => hh2.size ≤ b) h' CC (flat ps) := rP.ext hx
    obtain ⟨aC, hC, hcell⟩ : ∃ a, CC = some a ∧ ∀ j, j < 2 → cellH h' ((a.add (i * 2)).add j) = (cell2 ps[i])[j]? := by
      rcases rP' with h0 | ⟨b, o, cs, t, z, hA, _, hb, hc⟩
      · have := flat_len ps; rw [h0] at this; simp at this; omega
      · refine ⟨_, hA, fun j hj => ?_⟩
        rw [add_lit, add_lit]
        have h5 := hc (2 * i + j) (by rw [flat_len]; omega)
        have h6 : cellH h' ⟨b, o + i * 2 + j, none⟩ = cs[o + i * 2 + j]? := by unfold cellH; simp [hb]
        rw [h6, show o + i * 2 + j = o + (2 * i + j) by omega, h5]
        rcases (by omega : j = 0 ∨ j = 1) with rfl | rfl
        · rw [Nat.add_zero, g1]; rfl
        · rw [g2]; rfl
    subst hC
    refine run ?_
    refine L.op (V.idx rfl rfl (by omega) (by omega)) ?_
    refine L.op (V.loada (vs := cell2 ps[i]) rfl rfl (fun j hj => by simpa using hcell j (by simpa [cell2] using hj))) ?_
    refine L.do1 (D.al (cs := [.int .i64 0, .int .u8 0]) rfl) ?_
    rintro _ h4 ⟨rfl, m4⟩
    have s5 := m4.size
    refine L.do0 (D.sta (b := h'.size) (cs := [.int .i64 0, .int .u8 0]) (vs := cell2 ps[i]) rfl rfl rfl (by intro v hv; simp [cell2] at hv; rcases hv with rfl | rfl <;> rfl) m4.at_ rfl) ?_
    rintro _ h5 t5
    have s6 := t5.size
    have x5 : Ext h' h5 := Mods.ext m4.ext t5.mods (fun b hb he => by omega)
    have p5 : Blk h5 h'.size (cell2 ps[i]) 92 := t5.at_ (by omega)
    have e5 : Blk h5 h.size (encC k m (.slice B (nof k) cb)) 56 := x5.at (hx.at e3)
    obtain ⟨aL, Al, cl, rfl, hcl, hcil, hril⟩ := (hB.ext ((xh3.trans hx).trans x5)).at_ (i := ps[i].1) (by omega)
    have hgl : LL.getD ps[i].1 [] = LL[ps[i].1]'(by omega) := by rw [List.getD_eq_getElem?_getD, List.getElem?_eq_getElem (by omega)]; rfl
    have hLl : (LL[ps[i].1]'(by omega)).length = m := hL _ (List.getElem_mem _)
    obtain ⟨Ap', cp', hpe, hpc, hpr⟩ := hv
    injection hpe with q1 q2 q3
    subst q1 q3
    have hax := axpy_c A5 Al c5 cl (symP m LL (ps.take i)) (LL[ps[i].1]'(by omega)) ps[i].2 h5 (hpr.row.ext x5) hril.row (by omega) (by omega)
    rw [hlen, hLl, ← hgl, ← symP_snoc, ← List.take_succ_eq_append_getElem hlt] at hax
    rw [hLl] at hcl
    refine run ?_
    refine C.mix (fun hh => Ext h5 hh) (fun i => i == 9) mixed (by kernel_rfl) (Mods.refl _ _) ?_
    refine run ?_
    refine M.op (fun hh hG => V.load (v := .slice (some aL) (nof k) cb) rfl (by have := Blk.cell (hG.at e5) 2; simpa [encC] using this)) ?_
    refine run ?_
    refine M.op (fun hh hG => V.load (v := .int .i64 (ps[i].1 : Int)) rfl (by have := Blk.cell (hG.at p5) 0; simpa [cell2] using this)) ?_
    refine M.op (fun hh hG => V.idx rfl rfl (by omega) (by omega)) ?_
    have hcl' : cellH h5 (aL.add ((ps[i].1 : Int).toNat * 1)) = some (.slice Al m cl) := by simpa using hcl
    refine M.op (fun hh hG => V.load (v := .slice Al m cl) rfl (Mods.cell hG hcl')) ?_
    refine run ?_
    refine M.op (fun hh hG => V.load (v := u8v ps[i].2) rfl (by have := Blk.cell (hG.at p5) 1; simpa [cell2] using this)) ?_
    refine M.c1 rfl rfl hax ?_
    rintro _ h6 ⟨r, rfl, o6, x6⟩
    refine ⟨x6, ?_⟩
    obtain ⟨A6, c6, rfl, -⟩ := o6.row
    refine run ?_
    exact ⟨_, _, by omega, ⟨i + 1, _, by omega, rfl, ⟨o6.bsq (fun b hb _ => by omega), _, _, rfl⟩, (hx.trans x5).trans x6, rfl⟩, rfl, rfl, rfl, rfl, int_eq (by omega), trivial⟩
  · obtain rfl : i = ps.length := by omega
    rw [List.take_of_length_le (Nat.le_refl _)] at hv
    refine run ?_
    exact ret1 rfl (by constructor) ⟨⟨ps, hperm, hv⟩, xh3.trans hx⟩
end Go.Proofs.Ytdphoegigdpboaa.E
