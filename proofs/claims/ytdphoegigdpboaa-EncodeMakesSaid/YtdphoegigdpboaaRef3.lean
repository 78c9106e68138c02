/-
  The reference's rows and symbols.
-/
import Derived.Test.YtdphoegigdpboaaRef2
set_option linter.unusedVariables false
set_option linter.unusedSimpArgs false
namespace Go.Proofs.Ytdphoegigdpboaa.E
open Go Go.Proofs
set_option maxRecDepth 100000
/-- the row of an ID, with j parities in -/
def rowP (k : Nat) (o : List UInt8) (j : Nat) : List UInt8 := (((pars k).zip (o.drop k)).take j).foldl (fun p x => axpy p x.1 x.2) (o.take k)
def rowOf (k : Nat) (id : UInt32) : List UInt8 := rowP k (picked k id).o (sp k + 2)
theorem rowP_zero (k : Nat) (o : List UInt8) : rowP k o 0 = o.take k := rfl
theorem rowP_succ (k : Nat) (o : List UInt8) (j : Nat) (h1 : j < sp k + 2) (h2 : k + j < o.length) : rowP k o (j + 1) = axpy (rowP k o j) (parR k j) o[k + j] := by
  have hz : j < ((pars k).zip (o.drop k)).length := by simp [pars_len]; omega
  rw [rowP, List.take_succ_eq_append_getElem hz, List.foldl_append]
  simp [rowP, pars]
theorem rowP_len (k : Nat) (o : List UInt8) (ho : o.length = k + (sp k + 2)) : ∀ j, j ≤ sp k + 2 → (rowP k o j).length = k
  | 0, _ => by rw [rowP_zero, List.length_take]; omega
  | j + 1, h => by
    have := rowP_len k o ho j (by omega)
    rw [rowP_succ k o j (by omega) (by omega), axpy_len _ _ _ (by rw [this, parR_len]), this]
theorem BsP.slice {p : Nat → Prop} {h : Heap} {v : Value} {bs : List UInt8} (r : BsP p h v bs) : ∃ A c, v = .slice A bs.length c ∧ RowP p h A (bys bs) := let ⟨A, c, hv, _, hr⟩ := r; ⟨A, c, hv, hr⟩
theorem Mods.cell {h h' : Heap} (x : Ext h h') {a : Addr} {v : Value} (hc : cellH h a = some v) : cellH h' a = some v := by
  unfold cellH at hc ⊢
  cases hb : h[a.block]? with
  | none => rw [hb] at hc; simp at hc
  | some o => rw [x.at hb]; rw [hb] at hc; exact hc
theorem add_zero' (a : Addr) : a.add 0 = a := by
  obtain ⟨b, o, e⟩ := a
  cases e <;> simp [Addr.add]
/-- x[:j] -/
theorem V.cutTo {P : Program} {w0 : World} {n : Nat} {σ : Slots} {h : Heap} {ty : TypeId} {t e sz by_ : Nat} {x hi : Operand} {A : Option Addr} {l c j : Nat} {k : IntKind} [ht : SliceT P t e] [hi' : InfoT P e sz by_] (hx : ev n σ x = .slice A l c)
    (hhi : ev n σ hi = .int k (j : Int)) (h2 : j ≤ c) : V P w0 n σ h (.slice t x none (some hi) none) ty (.slice A j c) := by
  have := V.cut (P := P) (w0 := w0) (n := n) (σ := σ) (h := h) (ty := ty) (t := t) (x := x) (lo := none) (hi := some hi) (i := 0) (j := j) hx (.inl ⟨rfl, rfl⟩) (.inr ⟨k, by simp [hhi]⟩) (Nat.zero_le _) h2
  have e : (if c = 0 then A else A.map (·.add (0 * sz))) = A := by
    split
    · rfl
    · cases A <;> simp [add_zero']
  rw [e] at this
  simpa using this
theorem rrow_c (k : Nat) (id : UInt32) (h : Heap) (h1 : 1 ≤ k) (h2 : k ≤ 64) : Ret Try.prog 12 [.int .i64 (k : Int), u32v id] h (fun v h' => BsP (fun b => h.size ≤ b) h' v (rowOf k id) ∧ Ext h h') := by
  refine Ret.enter Try.func12 rfl Try.ntmps12 (by show 2 ≤ 38; decide) fun w0 => ?_
  have hs : sp k ≤ 100 := by simp only [sp]; omega
  have hn : nof k = k + (sp k + 2) := rfl
  refine run ?_
  refine L.c1 rfl (rpicks_c k id h h1 h2) ?_
  rintro v hh1 ⟨o1, x1⟩
  obtain ⟨A1, c1, rfl, hc1, -, r1⟩ := o1.row
  have s1 := x1.size
  have hol : (picked k id).o.length = nof k := runP_len _ _ _
  have hro : rowOf k id = rowP k (picked k id).o (sp k + 2) := rfl
  rw [hro]
  generalize (picked k id).o = o at *
  refine run ?_
  refine L.do1 D.bs0 ?_
  rintro _ hh2 ⟨rfl, m2⟩
  have s2 := m2.size
  refine run ?_
  refine L.op (V.cutTo (j := k) rfl rfl (by omega)) ?_
  have ho0 : Own hh2 h.size 5 1 _ 0 [] := m2.empty (by omega)
  have rt : Row hh2 A1 (bys (o.take k)) := by rw [← bys_take]; exact (r1.ext m2.ext).take k
  refine L.do1 (D.appendi (z := .int .u8 0) (by constructor) rfl ho0 rt (by simp; omega) (bys_one _) rfl (by decide) (by decide) (by omega) (by omega)) ?_
  rintro v hh3 ⟨o3, m3, -⟩
  have x3 : Ext hh1 hh3 := Mods.ext m2.ext m3 (fun b hb he => by simp [Value.ownBlock] at he; omega)
  have s3 := x3.size
  have b3 : BsP (fun b => h.size ≤ b) hh3 v (rowP k o 0) := by
    rw [rowP_zero]
    have o3' : Own hh3 h.size 5 1 v (0 + k) (bys (o.take k)) := by simpa using o3
    exact o3'.bsq (fun b hb _ => hb)
  have hl0 := rowP_len k o (by omega) 0 (by omega)
  obtain ⟨A3, c3, hv3, -⟩ := b3.slice
  rw [hl0] at hv3
  subst hv3
  refine run ?_
  refine L.c1 rfl (rparities_c k hh3 h1 h2) ?_
  rintro v hh4 ⟨o4, x4⟩
  obtain ⟨A4, c4, hv, -, -, b4⟩ := o4.bss
  rw [pars_len] at hv
  subst hv
  have s4 := x4.size
  have x14 := x3.trans x4
  refine run ?_
  refine C.loopv (fun m l h' => ∃ j v, j ≤ sp k + 2 ∧ m = sp k + 2 - j ∧ (BsP (fun b => h.size ≤ b) h' v (rowP k o j) ∧ ∃ A c, v = .slice A k c) ∧ Ext hh4 h' ∧
    l = [(0, .int .i64 (k : Int)), (5, .slice A1 (nof k) c1), (6, v), (7, .slice A4 (sp k + 2) c4), (20, .int .i64 ((sp k + 2 : Nat) : Int)), (21, .int .i64 (j : Int))]) (sp k + 2) _
    ⟨0, _, by omega, by omega, ⟨b3.ext x4, _, _, rfl⟩, Mods.refl _ _, rfl⟩ ⟨rfl, rfl, rfl, rfl, rfl, rfl, trivial⟩ ?_
  rintro m l h' τ ⟨j, v, hj, rfl, ⟨hv, A5, c5, rfl⟩, hx, rfl⟩
  have s5 := hx.size
  have hlen := rowP_len k o (by omega) j hj
  by_cases hlt : j < sp k + 2
  · obtain ⟨a, Ai, ci, rfl, hc, hci, hri⟩ := (b4.ext hx).at_ (i := j) (by rw [pars_len]; exact hlt)
    have hpj : (pars k)[j]'(by rw [pars_len]; exact hlt) = parR k j := by simp [pars]
    rw [hpj] at hc hci hri
    rw [parR_len] at hc hci
    have hkj : k + j < o.length := by omega
    obtain ⟨ao, rfl, hco⟩ := (r1.ext (x14.trans hx)).byte (i := k + j) hkj
    obtain ⟨Ap', cp', hpe, hpc, hpr⟩ := hv
    injection hpe with e1 e2 e3
    subst e1 e3
    have hpl := plus_c A5 Ai c5 ci (rowP k o j) (parR k j) o[k + j] h' hpr.row hri.row (by rw [hlen, parR_len]) (by omega)
    rw [hlen, parR_len] at hpl
    have hc' : cellH h' (a.add ((j : Int).toNat * 1)) = some (.slice Ai k ci) := by simpa using hc
    have hco' : cellH h' (ao.add ((((k + j : Nat) : Int)).toNat * 1)) = some (u8v o[k + j]) := by rw [Int.toNat_natCast, Nat.mul_one]; exact hco
    refine run ?_
    refine C.mix (fun hh => Ext h' hh) (fun i => i == 11) mixed (by kernel_rfl) (Mods.refl _ _) ?_
    refine run ?_
    refine M.op (fun hh hG => V.idx rfl rfl (by omega) (by omega)) ?_
    refine M.op (fun hh hG => V.load (v := .slice Ai k ci) rfl (Mods.cell hG hc')) ?_
    refine run ?_
    refine M.op (fun hh hG => V.idx (i := ((k + j : Nat) : Int)) rfl (int_eq (by omega)) (by omega) (by omega)) ?_
    refine M.op (fun hh hG => V.load (v := u8v o[k + j]) rfl (Mods.cell hG hco')) ?_
    refine M.c1 rfl rfl hpl ?_
    rintro v h6 ⟨o6, x6⟩
    refine ⟨x6, ?_⟩
    have hsu := rowP_succ k o j hlt hkj
    rw [← hsu] at o6
    obtain ⟨A6, c6, rfl, -⟩ := o6.row
    refine run ?_
    exact ⟨_, _, by omega, ⟨j + 1, _, by omega, rfl, ⟨o6.bsq (fun b hb _ => by omega), _, _, rfl⟩, hx.trans x6, rfl⟩, rfl, rfl, rfl, rfl, rfl, int_eq (by omega), trivial⟩
  · obtain rfl : j = sp k + 2 := by omega
    refine run ?_
    exact ret1 rfl (by constructor) ⟨hv, (x1.trans x14).trans hx⟩
/-- the symbol of a row -/
theorem rsymbol_c {p q : Nat → Prop} (A R : Option Addr) (c cr : Nat) (bss : List (List UInt8)) (m : Nat) (row : List UInt8) (h : Heap) (hA : Bss p h A bss) (hR : RowP q h R (bys row)) (hl : row.length = bss.length) (hm : bss.length ≤ 1000) (hm2 : m ≤ 100000) :
    Ret Try.prog 11 [.slice A bss.length c, .int .i64 (m : Int), .slice R bss.length cr] h (fun v h' => BsP (fun b => h.size ≤ b) h' v (axs m (bss.map (fill · m)) row) ∧ Ext h h') := by
  refine Ret.enter Try.func11 rfl Try.ntmps11 (by show 3 ≤ 30; decide) fun w0 => ?_
  obtain ⟨F, hFd⟩ : ∃ F, F = bss.map (fill · m) := ⟨_, rfl⟩
  rw [← hFd]
  have hFl : F.length = bss.length := by rw [hFd]; simp
  have hF : ∀ x ∈ F, x.length = m := by
    intro x hx; rw [hFd] at hx; obtain ⟨y, _, rfl⟩ := List.mem_map.1 hx; exact fill_len y m
  have hFi : ∀ i (hi : i < bss.length), F[i]'(by omega) = fill bss[i] m := by intro i hi; simp [hFd]
  refine run ?_
  refine L.do1 (D.mk' (l := m) (z := .int .u8 0) rfl rfl rfl (by omega) (by omega)) ?_
  rintro _ hh1 ⟨rfl, n1⟩
  have s1 := n1.size
  have o1 : Own hh1 h.size 5 1 (.slice (some ⟨h.size, 0, none⟩) m m) m (bys (axsP m F row 0)) := by
    rw [axsP_zero, bys_replicate]; exact n1.made (Nat.le_refl _) (by simp) (by simp only [maxLen]; omega)
  refine run ?_
  refine C.loopv (fun k l h' => ∃ i v, i ≤ bss.length ∧ k = bss.length - i ∧ (BsP (fun b => h.size ≤ b) h' v (axsP m F row i) ∧ ∃ Ap cp, v = .slice Ap m cp) ∧ Ext h h' ∧
    l = [(0, .slice A bss.length c), (1, .int .i64 (m : Int)), (2, .slice R bss.length cr), (7, v), (12, .int .i64 (bss.length : Int)), (13, .int .i64 (i : Int))]) bss.length _
    ⟨0, _, by omega, by omega, ⟨o1.bsq (fun b hb _ => hb), _, _, rfl⟩, n1.ext, rfl⟩ ⟨rfl, rfl, rfl, rfl, rfl, rfl, trivial⟩ ?_
  rintro k l h' τ ⟨i, v, hi, rfl, ⟨hv, A5, c5, rfl⟩, hx, rfl⟩
  have s5 := hx.size
  by_cases hlt : i < bss.length
  · have hlen := axsP_len m F row hF i (by omega) (by omega)
    obtain ⟨a, Ai, ci, rfl, hc, hci, hri⟩ := (hA.ext hx).at_ hlt
    obtain ⟨ao, rfl, hco⟩ := (hR.row.ext hx).byte (i := i) (by omega)
    obtain ⟨Ap', cp', hpe, hpc, hpr⟩ := hv
    injection hpe with e1 e2 e3
    subst e1 e3
    have hpl : ∀ (h6 : Heap) (A6 : Option Addr) (c6 : Nat), Row h6 A5 (bys (axsP m F row i)) → Row h6 A6 (bys (fill bss[i] m)) → Ret Try.prog 26 [.slice A5 m c5, .slice A6 m c6, .int .u8 (row[i].toNat : Int)] h6 (fun r h' => Own h' h6.size 5 1 r m (bys (axsP m F row (i + 1))) ∧ Ext h6 h') := by
      intro h6 A6 c6 g1 g2
      have := plus_c A5 A6 c5 c6 (axsP m F row i) (fill bss[i] m) row[i] h6 g1 g2 (by rw [hlen, fill_len]) (by omega)
      rw [hlen, fill_len] at this
      rw [axsP_succ m F row i (by omega) (by omega), hFi i hlt]
      exact this
    have hc' : cellH h' (a.add ((i : Int).toNat * 1)) = some (.slice Ai bss[i].length ci) := by simpa using hc
    have hco' : cellH h' (ao.add ((i : Int).toNat * 1)) = some (u8v row[i]) := by simpa using hco
    refine run ?_
    refine C.mix (fun hh => Ext h' hh) (fun i => i == 6 || i == 11) mixed (by kernel_rfl) (Mods.refl _ _) ?_
    refine run ?_
    refine M.op (fun hh hG => V.idx rfl rfl (by omega) (by omega)) ?_
    refine M.op (fun hh hG => V.load (v := .slice Ai bss[i].length ci) rfl (Mods.cell hG hc')) ?_
    refine run ?_
    refine M.c1 rfl rfl (fill_c Ai ci bss[i] m h' hri.row (by omega)) ?_
    rintro v h6 ⟨o6, x6⟩
    refine ⟨x6, ?_⟩
    obtain ⟨A6, c6, rfl, -, -, r6⟩ := o6.row
    refine run ?_
    refine M.op (fun hh hG => V.idx rfl rfl (by omega) (by omega)) ?_
    refine M.op (fun hh hG => V.load (v := u8v row[i]) rfl (Mods.cell hG hco')) ?_
    refine M.c1 rfl rfl (hpl h6 A6 c6 (hpr.row.ext x6) r6) ?_
    rintro v h7 ⟨o7, x7⟩
    refine ⟨x6.trans x7, ?_⟩
    obtain ⟨A7, c7, rfl, -⟩ := o7.row
    refine run ?_
    have s6 := x6.size
    exact ⟨_, _, by omega, ⟨i + 1, _, by omega, rfl, ⟨o7.bsq (fun b hb _ => by omega), _, _, rfl⟩, hx.trans (x6.trans x7), rfl⟩, rfl, rfl, rfl, rfl, rfl, int_eq (by omega), trivial⟩
  · obtain rfl : i = bss.length := by omega
    have hall : axsP m F row bss.length = axs m F row := by have := axsP_all m F row (by omega); rwa [hFl] at this
    rw [hall] at hv
    refine run ?_
    exact ret1 rfl (by constructor) ⟨hv, hx⟩
end Go.Proofs.Ytdphoegigdpboaa.E
