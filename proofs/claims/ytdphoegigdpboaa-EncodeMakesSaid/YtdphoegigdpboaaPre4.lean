/-
  precode.Parities.
-/
import Derived.Test.YtdphoegigdpboaaPre3
set_option linter.unusedVariables false
set_option linter.unusedSimpArgs false
namespace Go.Proofs.Ytdphoegigdpboaa.E
open Go Go.Proofs
set_option maxRecDepth 100000
theorem Bss.mono {p q : Nat → Prop} {h : Heap} {A : Option Addr} {bss : List (List UInt8)} (r : Bss p h A bss) (hpq : ∀ b, b < h.size → p b → q b) : Bss q h A bss :=
  let ⟨vs, hr, ha⟩ := r; ⟨vs, hr.mono hpq, ha.imp fun _ _ hb => hb.mono hpq⟩
theorem axpy_zero (a b : List UInt8) (h : a.length = b.length) : axpy a b 0 = a := by
  apply List.ext_getElem
  · rw [axpy_len _ _ _ h]
  · intro i h1 h2; simp [axpy, Gf.mul_zero_right]
/-- the sum of rows times numbers: the first i of them -/
def axsP (m : Nat) (L : List (List UInt8)) (cs : List UInt8) (i : Nat) : List UInt8 := ((L.zip cs).take i).foldl (fun p x => axpy p x.1 x.2) (List.replicate m 0)
def axs (m : Nat) (L : List (List UInt8)) (cs : List UInt8) : List UInt8 := (L.zip cs).foldl (fun p x => axpy p x.1 x.2) (List.replicate m 0)
theorem axsP_zero (m : Nat) (L : List (List UInt8)) (cs : List UInt8) : axsP m L cs 0 = List.replicate m 0 := rfl
theorem axsP_succ (m : Nat) (L : List (List UInt8)) (cs : List UInt8) (i : Nat) (h1 : i < L.length) (h2 : i < cs.length) : axsP m L cs (i + 1) = axpy (axsP m L cs i) L[i] cs[i] := by
  have hz : i < (L.zip cs).length := by simp; omega
  rw [axsP, List.take_succ_eq_append_getElem hz, List.foldl_append]
  simp [axsP]
theorem axsP_all (m : Nat) (L : List (List UInt8)) (cs : List UInt8) (h : L.length = cs.length) : axsP m L cs L.length = axs m L cs := by
  rw [axsP, List.take_of_length_le (by simp; omega)]; rfl
theorem axsP_len (m : Nat) (L : List (List UInt8)) (cs : List UInt8) (hL : ∀ x ∈ L, x.length = m) : ∀ i, i ≤ L.length → i ≤ cs.length → (axsP m L cs i).length = m := by
  intro i
  induction i with
  | zero => intros; simp [axsP_zero]
  | succ i ih =>
    intro h1 h2
    rw [axsP_succ m L cs i (by omega) (by omega), axpy_len _ _ _ (by rw [ih (by omega) (by omega), hL _ (List.getElem_mem _)]), ih (by omega) (by omega)]
/-- the parities of sources -/
def par (bss : List (List UInt8)) (m : Nat) : List (List UInt8) := (pars bss.length).map (axs m (bss.map (fill · m)))
theorem par_len (bss : List (List UInt8)) (m : Nat) : (par bss m).length = sp bss.length + 2 := by simp [par, pars_len]
theorem parities_bad {p : Nat → Prop} (A : Option Addr) (c : Nat) (bss : List (List UInt8)) (size : Int) (h : Heap) (hA : Bss p h A bss) (hm : bss.length ≤ 1000) (hb : bad bss size ≠ 0) :
    RetQ Try.prog 46 [.slice A bss.length c, .int .i64 size] h (.tuple #[.slice none 0 0, .int .i64 (bad bss size : Int)]) := by
  refine Ret.quiet (Ret.enter Try.func46 rfl Try.ntmps46 (by show 2 ≤ 59; decide) fun w0 => ?_)
  refine run ?_
  refine L.cq rfl (check_c A c bss size h hA (by omega)) ?_
  refine run ?_
  exact ret2 rfl (by constructor) (by constructor) ⟨rfl, rfl⟩
theorem parities_c {p : Nat → Prop} (A : Option Addr) (c : Nat) (bss : List (List UInt8)) (m : Nat) (h : Heap) (hA : Bss p h A bss) (hb : bad bss (m : Int) = 0) :
    Ret Try.prog 46 [.slice A bss.length c, .int .i64 (m : Int)] h (fun r h' => ∃ v, r = .tuple #[v, .int .i64 0] ∧ OB h' h.size 30 v (par bss m) ∧ Ext h h') := by
  obtain ⟨hm1, hm2, hk1, hk2, hlen⟩ := bad_zero hb
  refine Ret.enter Try.func46 rfl Try.ntmps46 (by show 2 ≤ 59; decide) fun w0 => ?_
  refine run ?_
  have hc := check_c A c bss (m : Int) h hA (by omega)
  rw [hb] at hc
  refine L.cq rfl hc ?_
  refine run ?_
  refine L.c1 rfl (filled_c A c bss m h hA (by omega) (by omega) (fun i hi => by have := hlen i hi; omega)) ?_
  rintro v h1 ⟨o1, x1⟩
  obtain ⟨F, hFd⟩ : ∃ F, F = bss.map (fill · m) := ⟨_, rfl⟩
  rw [← hFd] at o1
  have hFl : F.length = bss.length := by rw [hFd]; simp
  have hF : ∀ x ∈ F, x.length = m := by
    intro x hx; rw [hFd] at hx; obtain ⟨y, _, rfl⟩ := List.mem_map.1 hx; exact fill_len y m
  obtain ⟨A1, c1, hv, -, -, b1⟩ := o1.bss
  rw [hFl] at hv
  subst hv
  refine run ?_
  refine L.c1 rfl (rows_c bss.length h1 hk1 hk2) ?_
  rintro v h2 ⟨A2, rfl, b2, x2⟩
  have s1 := x1.size
  have s2 := x2.size
  have b1' := b1.ext x2
  have hsp : sp bss.length ≤ 100 := by simp only [sp]; omega
  refine run ?_
  refine C.loopv (fun k l h' => ∃ j v, j ≤ sp bss.length + 2 ∧ k = sp bss.length + 2 - j ∧ OB h' h2.size 30 v (((pars bss.length).take j).map (axs m F)) ∧ Ext h2 h' ∧
    l = [(1, .int .i64 (m : Int)), (7, .slice A1 bss.length c1), (8, v), (25, .slice A2 (sp bss.length + 2) (sp bss.length + 2)), (26, .int .i64 ((sp bss.length + 2 : Nat) : Int)), (27, .int .i64 (j : Int))]) (sp bss.length + 2) _
    ⟨0, _, by omega, by omega, OB.nil _ _ _, Mods.refl _ _, rfl⟩ ⟨rfl, rfl, rfl, rfl, rfl, rfl, trivial⟩ ?_
  rintro k l h' τ ⟨j, v, hj, rfl, ho, hx, rfl⟩
  have hsz := hx.size
  obtain ⟨A', c', rfl⟩ := ho.slice
  by_cases hlt : j < sp bss.length + 2
  · have hjl : (((pars bss.length).take j).map (axs m F)).length = j := by simp [pars_len]; omega
    have hjp : j < (pars bss.length).length := by rw [pars_len]; exact hlt
    obtain ⟨a, Ai, ci, rfl, hc, hci, hri⟩ := (b2.ext hx).at_ hjp
    have hcl : (pars bss.length)[j].length = bss.length := by simp [pars, parR_len]
    generalize hcs : (pars bss.length)[j] = cs at *
    refine run ?_
    refine L.op (V.idx rfl rfl (by omega) (by omega)) ?_
    refine L.op (V.load rfl (by simpa using hc)) ?_
    refine run ?_
    refine L.do1 (D.mk' (l := m) (z := .int .u8 0) rfl rfl rfl (by omega) (by omega)) ?_
    rintro _ h3 ⟨rfl, n3⟩
    have s3 := n3.size
    have o3 : Own h3 h'.size 5 1 (.slice (some ⟨h'.size, 0, none⟩) m m) m (bys (axsP m F cs 0)) := by
      rw [axsP_zero, bys_replicate]; exact n3.made (Nat.le_refl _) (by simp) (by simp only [maxLen]; omega)
    refine run ?_
    refine C.loopv (fun k l h'' => ∃ i p, i ≤ bss.length ∧ k = bss.length - i ∧ (BsP (fun b => h'.size ≤ b) h'' p (axsP m F cs i) ∧ ∃ Ap cp, p = .slice Ap m cp) ∧ Ext h' h'' ∧
      l = [(1, .int .i64 (m : Int)), (7, .slice A1 bss.length c1), (8, .slice A' (((pars bss.length).take j).map (axs m F)).length c'), (11, p), (25, .slice (some a) (sp bss.length + 2) (sp bss.length + 2)), (26, .int .i64 ((sp bss.length + 2 : Nat) : Int)), (27, .int .i64 (j : Int)),
        (33, .slice Ai cs.length ci), (34, .int .i64 (cs.length : Int)), (35, .int .i64 (i : Int))]) bss.length _
      ⟨0, _, by omega, by omega, ⟨o3.bsq (fun b hb _ => hb), _, _, rfl⟩, n3.ext, rfl⟩ ⟨rfl, rfl, rfl, rfl, rfl, rfl, rfl, rfl, rfl, rfl, trivial⟩ ?_
    rintro k l h4 τ ⟨i, p, hi, rfl, ⟨hp, Ap, cp, rfl⟩, hx4, rfl⟩
    have s4 := hx4.size
    by_cases hil : i < bss.length
    · obtain ⟨aa, rfl, hca⟩ := (hri.row.ext hx4).byte (i := i) (by omega)
      refine run ?_
      refine L.op (V.idx rfl rfl (by omega) (by omega)) ?_
      refine L.op (V.load rfl (by simpa using hca)) ?_
      have hsuc := axsP_succ m F cs i (by omega) (by omega)
      have hpl := axsP_len m F cs hF i (by omega) (by omega)
      have hfl : F[i].length = m := hF _ (List.getElem_mem _)
      by_cases hz : cs[i] = 0
      · have hz' : (cs[i].toNat : Int) = 0 := by rw [hz]; rfl
        refine run ?_
        refine ⟨_, _, by omega, ⟨i + 1, _, by omega, rfl, ⟨?_, _, _, rfl⟩, hx4, rfl⟩, rfl, rfl, rfl, rfl, rfl, rfl, rfl, rfl, rfl, int_eq (by omega), trivial⟩
        rw [hsuc, hz, axpy_zero _ _ (by omega)]; exact hp
      · have hz' : (cs[i].toNat : Int) ≠ 0 := by
          intro he; apply hz
          have : cs[i].toNat = 0 := by omega
          exact UInt8.toNat_inj.1 this
        obtain ⟨al, Al, cl, rfl, hcl', hcil, hril⟩ := (b1'.ext (hx.trans hx4)).at_ (i := i) (by omega)
        obtain ⟨Ap', cp', hpe, hpc, hpr⟩ := hp
        injection hpe with e1 e2 e3
        subst e1 e3
        refine run ?_
        refine L.op (V.idx rfl rfl (by omega) (by omega)) ?_
        refine L.op (V.load rfl (by simpa using hcl')) ?_
        refine run ?_
        have hax := axpy_c Ap Al cp cl (axsP m F cs i) F[i] cs[i] h4 hpr.row hril.row (by omega) (by omega)
        rw [hpl] at hax
        refine L.c1 rfl hax ?_
        rintro _ h5 ⟨r, rfl, o5, x5⟩
        rw [← hsuc] at o5
        obtain ⟨A5, c5, rfl, -⟩ := o5.row
        refine run ?_
        refine ⟨_, _, by omega, ⟨i + 1, _, by omega, rfl, ⟨o5.bsq (fun b hb _ => by omega), _, _, rfl⟩, hx4.trans x5, rfl⟩, rfl, rfl, rfl, rfl, rfl, rfl, rfl, rfl, rfl, int_eq (by omega), trivial⟩
    · obtain rfl : i = bss.length := by omega
      have hall : axsP m F cs bss.length = axs m F cs := by have := axsP_all m F cs (by omega); rwa [hFl] at this
      rw [hall] at hp
      refine run ?_
      refine L.do1 (D.bs1i (z := .slice none 0 0) (by constructor) rfl rfl) ?_
      rintro _ h5 ⟨rfl, n5⟩
      obtain ⟨vs, hown, hal⟩ := ho
      have x5 : Ext h' h5 := hx4.trans n5.ext
      have s5 := x5.size
      refine L.do1 (D.appendi (z := .slice none 0 0) (by constructor) rfl (hown.ext x5) (Row.of_blk n5.at_) rfl (by simp [Value.oneCell']) rfl (by decide) (by decide) (by rw [hjl]; omega) (by omega)) ?_
      rintro v' h6 ⟨o6, m6, hv6⟩
      have hu : BsP (fun b => (Value.slice A' (((pars bss.length).take j).map (axs m F)).length c').ownBlock ≠ some b ∧ h2.size ≤ b) h5 (.slice Ap m cp) (axs m F cs) :=
        (hp.ext n5.ext).mono (fun b _ hb => ⟨fun he => by have := (hown.base he).2; omega, by omega⟩)
      have hob := OB.push (hal.imp fun _ _ hb => hb.ext x5) hu o6 m6 hv6
      rw [← hcs, map_take_succ (axs m F) (pars bss.length) j hjp] at hob
      obtain ⟨A6, c6, rfl⟩ := hob.slice
      refine run ?_
      refine ⟨_, _, by omega, ⟨j + 1, _, by omega, rfl, hob, ?_, rfl⟩, rfl, rfl, rfl, rfl, rfl, int_eq (by omega), trivial⟩
      exact Mods.ext (hx.trans x5) m6 (fun k hk he => by have := (hown.base he).1; omega)
  · obtain rfl : j = sp bss.length + 2 := by omega
    have e : ((pars bss.length).take (sp bss.length + 2)).map (axs m F) = par bss m := by
      rw [List.take_of_length_le (by rw [pars_len]; omega), hFd]; rfl
    refine run ?_
    refine ret2 rfl (by constructor) (by constructor) ⟨_, rfl, ?_, (x1.trans x2).trans hx⟩
    rw [e] at ho ⊢
    obtain ⟨vs, hown, hal⟩ := ho
    exact ⟨vs, hown.low (by omega), hal.imp fun _ _ hb => hb.mono fun b _ hp => ⟨hp.1, by omega⟩⟩
end Go.Proofs.Ytdphoegigdpboaa.E
