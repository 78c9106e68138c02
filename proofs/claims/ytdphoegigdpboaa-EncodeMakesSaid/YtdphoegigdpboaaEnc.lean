/-
  encode.begin.
-/
import Derived.Test.YtdphoegigdpboaaSort
set_option linter.unusedVariables false
set_option linter.unusedSimpArgs false
namespace Go.Proofs.Ytdphoegigdpboaa.E
open Go Go.Proofs
set_option maxRecDepth 100000
section
variable {P : Program} {w0 : World} {n : Nat} {σ : Slots} {h : Heap}
theorem retAT {fn : Func} {t a u sz by_ : Nat} {S : Value → Heap → Prop} {ad : Addr} {vs : List Value} {v : Value} [hg : AggT P a] [hi : InfoT P a sz by_] (hr : fn.results = #[.cell t a, .tmp u]) (ht : ev n σ (.tmp t) = .pointer (some ad)) (hl : vs.length = sz) (hc : ∀ i, i < vs.length → cellH h (ad.add i) = vs[i]?)
    (hv : Is (ev n σ (.tmp u)) v) (hS : S (.tuple #[.agg vs.toArray, v]) h) : leave P n fn S .ret σ h := by
  unfold leave
  refine ⟨_, fun w hw => ?_, hS⟩
  subst hw
  have := run_loadCellsFrom (P := P) w ad vs 0 #[] (fun j hj => by rw [Nat.zero_add]; exact hc j hj)
  rw [hl] at this
  have ht' : (fr n σ).tmps[t]?.getD undef = .pointer (some ad) := by have := tmps_getD (n := n) (σ := σ) t; rw [ht] at this; simpa using this
  have hu' : (fr n σ).tmps[u]?.getD undef = v := by have := tmps_getD (n := n) (σ := σ) u; rw [hv.eq] at this; simpa using this
  simp [results, hr, asAddr, ht', hu', loadVar, hg.out, run_sizeOf, loadCells, this]
end
/-- the encoder's cells -/
def encC (k m : Nat) (v : Value) : List Value := [.int .i64 (k : Int), .int .i64 (m : Int), v]
theorem begin_bad {p : Nat → Prop} (A : Option Addr) (c : Nat) (bss : List (List UInt8)) (size : Int) (h : Heap) (hA : Bss p h A bss) (hm : bss.length ≤ 1000) (hb : bad bss size ≠ 0) :
    Ret Try.prog 24 [.slice A bss.length c, .int .i64 size] h (fun r h' => r = .tuple #[.agg ([.int .i64 0, .int .i64 0, .slice none 0 0] : List Value).toArray, .int .i64 (bad bss size : Int)] ∧ Ext h h') := by
  refine Ret.enter Try.func24 rfl Try.ntmps24 (by show 2 ≤ 50; decide) fun w0 => ?_
  refine run ?_
  refine L.do1 (D.al (cs := [.int .i64 0, .int .i64 0, .slice none 0 0]) rfl) ?_
  rintro _ h1 ⟨rfl, m1⟩
  have s1 := m1.size
  refine run ?_
  refine L.cq rfl (parities_bad A c bss size h1 (hA.ext m1.ext) hm hb) ?_
  refine run ?_
  refine L.op (V.buildS (vals := []) (cells := [.int .i64 0, .int .i64 0, .slice none 0 0]) rfl rfl rfl) ?_
  refine run ?_
  refine L.do0 (D.sta (b := h.size) (cs := [.int .i64 0, .int .i64 0, .slice none 0 0]) (vs := [.int .i64 0, .int .i64 0, .slice none 0 0]) rfl rfl rfl (by intro v hv; simp at hv; rcases hv with rfl | rfl | rfl <;> rfl) m1.at_ rfl) ?_
  rintro _ h2 t2
  have b2 : Blk h2 h.size [.int .i64 0, .int .i64 0, .slice none 0 0] 56 := t2.at_ (by omega)
  refine run ?_
  exact retAT (vs := [.int .i64 0, .int .i64 0, .slice none 0 0]) rfl rfl rfl (fun i hi => by rw [add_lit, Blk.cell b2]; simp) (by constructor) ⟨rfl, Mods.ext m1.ext t2.mods (fun k hk he => by omega)⟩
/-- all sources, and parities behind -/
def allOf (bss : List (List UInt8)) (m : Nat) : List (List UInt8) := bss.map (fill · m) ++ par bss m
theorem All2.append {α : Type} {R : Value → α → Prop} {vs ws : List Value} {xs ys : List α} (a : All2 R vs xs) (b : All2 R ws ys) : All2 R (vs ++ ws) (xs ++ ys) := by
  refine ⟨by simp [a.1, b.1], fun i u y hu hy => ?_⟩
  by_cases hi : i < vs.length
  · rw [List.getElem?_append_left hi] at hu
    rw [List.getElem?_append_left (by rw [← a.1]; exact hi)] at hy
    exact a.2 i u y hu hy
  · rw [List.getElem?_append_right (by omega)] at hu
    rw [List.getElem?_append_right (by rw [← a.1]; omega), ← a.1] at hy
    exact b.2 _ u y hu hy
theorem All2.mem {α : Type} {R : Value → α → Prop} {vs : List Value} {xs : List α} (a : All2 R vs xs) {v : Value} (hv : v ∈ vs) : ∃ x, R v x := by
  obtain ⟨i, hi, rfl⟩ := List.mem_iff_getElem.1 hv
  have hx : i < xs.length := by rw [← a.1]; exact hi
  exact ⟨xs[i], a.2 i _ _ (List.getElem?_eq_getElem hi) (List.getElem?_eq_getElem hx)⟩
theorem begin_c {p : Nat → Prop} (A : Option Addr) (c : Nat) (bss : List (List UInt8)) (m : Nat) (h : Heap) (hA : Bss p h A bss) (hb : bad bss (m : Int) = 0) :
    Ret Try.prog 24 [.slice A bss.length c, .int .i64 (m : Int)] h (fun r h' => (∃ B cb, r = .tuple #[.agg (encC bss.length m (.slice B (nof bss.length) cb)).toArray, .int .i64 0] ∧ Bss (fun b => h.size ≤ b) h' B (allOf bss m)) ∧ Ext h h') := by
  obtain ⟨hm1, hm2, hk1, hk2, hlen⟩ := bad_zero hb
  refine Ret.enter Try.func24 rfl Try.ntmps24 (by show 2 ≤ 50; decide) fun w0 => ?_
  have hsp : sp bss.length ≤ 100 := by simp only [sp]; omega
  refine run ?_
  refine L.do1 (D.al (cs := [.int .i64 0, .int .i64 0, .slice none 0 0]) rfl) ?_
  rintro _ h1 ⟨rfl, m1⟩
  have s1 := m1.size
  refine run ?_
  refine L.c1 rfl (parities_c A c bss m h1 (hA.ext m1.ext) hb) ?_
  rintro _ h2 ⟨vp, rfl, o2, x2⟩
  have s2 := x2.size
  obtain ⟨vsP, ownP, allP⟩ := o2
  obtain ⟨Ap, cp, hv, hpc, -, rwP⟩ := ownP.row
  rw [par_len] at hv
  subst hv
  have lP : vsP.length = sp bss.length + 2 := by rw [allP.1, par_len]
  have oneP : ∀ u ∈ vsP, u.oneCell' = true := fun u hu => let ⟨x, hx⟩ := allP.mem hu; hx.one
  have e2 : Blk h2 h.size [.int .i64 0, .int .i64 0, .slice none 0 0] 56 := x2.at m1.at_
  refine run ?_
  refine L.op (V.buildS (vals := [(0, .int .i64 (bss.length : Int)), (1, .int .i64 (m : Int))]) (cells := encC bss.length m (.slice none 0 0)) rfl rfl rfl) ?_
  refine L.do1 (D.al (cs := [.int .i64 0, .int .i64 0, .slice none 0 0]) rfl) ?_
  rintro _ h3 ⟨rfl, m3⟩
  have s3 := m3.size
  refine L.do0 (D.sta (b := h2.size) (cs := [.int .i64 0, .int .i64 0, .slice none 0 0]) (vs := encC bss.length m (.slice none 0 0)) rfl rfl rfl (by intro v hv; simp [encC] at hv; rcases hv with rfl | rfl | rfl <;> rfl) m3.at_ rfl) ?_
  rintro _ h4 t4
  have s4 := t4.size
  have b4 : Blk h4 h2.size (encC bss.length m (.slice none 0 0)) 56 := t4.at_ (by omega)
  have x4 : Ext h2 h4 := Mods.ext m3.ext t4.mods (fun k hk he => by omega)
  refine run ?_
  refine C.loopv (fun k l h' => ∃ i v, i ≤ bss.length ∧ k = bss.length - i ∧ OB h' h4.size 30 v ((bss.take i).map (fill · m)) ∧ Mods (fun k => k = h2.size) h4 h' ∧ Blk h' h2.size (encC bss.length m v) 56 ∧
    l = [(1, .int .i64 (m : Int)), (4, .pointer (some ⟨h.size, 0, none⟩)), (6, .slice Ap (sp bss.length + 2) cp), (8, .pointer (some ⟨h2.size, 0, none⟩)), (25, .slice A bss.length c), (26, .int .i64 (bss.length : Int)), (27, .int .i64 (i : Int))]) bss.length _
    ⟨0, _, by omega, by omega, OB.nil _ _ _, Mods.refl _ _, b4, rfl⟩ ⟨rfl, rfl, rfl, rfl, rfl, rfl, rfl, trivial⟩ ?_
  rintro k l h' τ ⟨i, v, hi, rfl, ho, hx, hE, rfl⟩
  have hsz := hx.size
  have hil : ((bss.take i).map (fill · m)).length = i := by simp; omega
  obtain ⟨A', c', hv⟩ := ho.slice
  rw [hil] at hv
  subst hv
  obtain ⟨vs, hown, hall⟩ := ho
  rw [hil] at hown
  have hne : (Value.slice A' i c').ownBlock ≠ some h2.size := fun he => by have := (hown.base he).1; omega
  by_cases hlt : i < bss.length
  · have xh : Ext h h' := Mods.ext ((m1.ext.trans x2).trans x4) hx (fun k hk he => by omega)
    obtain ⟨a, Ai, ci, rfl, hc, hci, hri⟩ := (hA.ext xh).at_ hlt
    have hbl : bss[i].length ≤ m := by have := hlen i hlt; omega
    refine run ?_
    refine L.op (V.idx rfl rfl (by omega) (by omega)) ?_
    refine L.op (V.load rfl (by simpa using hc)) ?_
    refine run ?_
    refine C.mixl (fun hh => Mods (fun b => (Value.slice A' i c').ownBlock = some b) h' hh) (fun i => i == 3 || i == 8 || i == 9 || i == 10 || i == 12) mixed (by kernel_rfl) (by kernel_rfl) (Mods.refl _ _) ?_
    refine run ?_
    refine M.op (fun hh hG => V.load (v := .slice A' i c') rfl (by
      have hE' : Blk hh h2.size (encC bss.length m (.slice A' i c')) 56 := hG.at hE hne
      have := Blk.cell hE' 2
      simpa [encC] using this)) ?_
    refine run ?_
    refine M.c1 rfl rfl (sclone_c Ai ci bss[i] h' hri.row (by omega)) ?_
    rintro r h5 ⟨o5, x5⟩
    refine ⟨x5.mods, ?_⟩
    obtain ⟨A5, c5, rfl, -⟩ := o5.row
    refine run ?_
    refine M.do1 rfl (D.appendzi (m := m - bss[i].length) (z := .int .u8 0) (by constructor) (int_eq (by omega)) o5 rfl rfl (by decide) (by omega) x5.size) ?_
    rintro r h6 ⟨o6, m6, -⟩
    have x6 : Ext h' h6 := o5.ext2 (Nat.le_refl _) x5 m6
    refine ⟨x6.mods, ?_⟩
    rw [← bys_replicate, ← bys_append, ← fill_long _ _ hbl] at o6
    obtain ⟨A6, c6, rfl, -⟩ := o6.row
    refine M.do1 rfl (D.bs1i (z := .slice none 0 0) (by constructor) rfl rfl) ?_
    rintro _ h7 ⟨rfl, n7⟩
    have x7 : Ext h' h7 := x6.trans n7.ext
    have s7 := x7.size
    refine ⟨x7.mods, ?_⟩
    refine M.do1 rfl (D.appendi (z := .slice none 0 0) (by constructor) rfl (hown.ext x7) (Row.of_blk n7.at_) rfl (by simp [Value.oneCell']) rfl (by decide) (by decide) (by omega) (by omega)) ?_
    rintro v' h8 ⟨o8, m8, hv8⟩
    have s8 := m8.size
    have hu : BsP (fun b => (Value.slice A' i c').ownBlock ≠ some b ∧ h4.size ≤ b) h7 (.slice A6 (bss[i].length + (m - bss[i].length)) c6) (fill bss[i] m) :=
      (o6.ext n7.ext).bsq (fun b hb _ => ⟨fun he => by have := (hown.base he).2; omega, by omega⟩)
    have o8' : Own h8 h4.size 30 1 v' (((bss.take i).map (fill · m)).length + 1) (vs ++ [.slice A6 (bss[i].length + (m - bss[i].length)) c6]) := by
      have e : ((bss.take i).map (fill · m)).length + 1 = i + 1 := by rw [hil]
      rw [e]; exact o8
    have hob := OB.push (hall.imp fun _ _ hb => hb.ext x7) hu o8' m8 hv8
    rw [map_take_succ (fill · m) bss i hlt] at hob
    refine ⟨x7.mods.trans (m8.mono fun _ _ h => h), ?_⟩
    obtain ⟨A8, c8, rfl⟩ := hob.slice
    have hE8 : Blk h8 h2.size (encC bss.length m (.slice A' i c')) 56 := m8.at (x7.at hE) hne
    refine run ?_
    refine M.last0 rfl (D.st (b := h2.size) (o := 2) rfl rfl rfl hE8 (by simp [encC])) ?_
    rintro _ h9 t9
    refine run ?_
    refine ⟨_, _, by omega, ⟨i + 1, _, by omega, rfl, ?_, ?_, t9.at_ (by omega), rfl⟩, rfl, rfl, rfl, rfl, rfl, rfl, int_eq (by omega), trivial⟩
    · obtain ⟨vs', hown', hall'⟩ := hob
      refine ⟨vs', hown'.mods t9.mods (fun b hb he => by have := (hown'.base hb).1; omega), hall'.imp fun _ _ hb => hb.mods t9.mods (fun b _ hp he => by have := hp.2; omega)⟩
    · refine ⟨by have := t9.size; omega, fun b hb hb2 => ?_⟩
      rw [t9.other hb2, ← hx.block b hb hb2, ← x7.block b (by omega) id]
      exact m8.block b (by omega) (fun he => by have := (hown.base he).1; omega)
  · obtain rfl : i = bss.length := by omega
    have x24 : Ext h2 h' := Mods.ext x4 hx (fun k hk he => by omega)
    refine run ?_
    refine L.op (V.load (v := .slice A' bss.length c') rfl (by have := Blk.cell hE 2; simpa [encC] using this)) ?_
    refine run ?_
    refine L.do1 (D.appendi (z := .slice none 0 0) (by constructor) rfl hown (rwP.ext x24) (by rw [lP]; omega) oneP rfl (by decide) (by decide) (by omega) (by omega)) ?_
    rintro v' h5 ⟨o5, m5, hv5⟩
    have s5 := m5.size
    obtain ⟨A5, c5, rfl, hc5, -, r5⟩ := o5.rowp
    have hE5 : Blk h5 h2.size (encC bss.length m (.slice A' bss.length c')) 56 := m5.at hE hne
    refine run ?_
    refine L.do0 (D.st (b := h2.size) (o := 2) (v := .slice A5 (nof bss.length) c5) rfl rfl rfl hE5 (by simp [encC])) ?_
    rintro _ h6 t6
    have s6 := t6.size
    have hE6 : Blk h6 h2.size (encC bss.length m (.slice A5 (nof bss.length) c5)) 56 := t6.at_ (by omega)
    refine run ?_
    refine L.op (V.loada (vs := encC bss.length m (.slice A5 (nof bss.length) c5)) rfl rfl (fun j hj => by rw [add_lit, Blk.cell hE6]; simp)) ?_
    have e26 : Blk h6 h.size [.int .i64 0, .int .i64 0, .slice none 0 0] 56 := by
      have g1 := x24.at e2
      have g2 := m5.at g1 (fun he => by have := (hown.base he).1; omega)
      unfold Blk; rw [t6.other (by omega)]; exact g2
    refine L.do0 (D.sta (b := h.size) (cs := [.int .i64 0, .int .i64 0, .slice none 0 0]) (vs := encC bss.length m (.slice A5 (nof bss.length) c5)) rfl rfl rfl (by intro v hv; simp [encC] at hv; rcases hv with rfl | rfl | rfl <;> rfl) e26 rfl) ?_
    rintro _ h7 t7
    have s7 := t7.size
    have e7 : Blk h7 h.size (encC bss.length m (.slice A5 (nof bss.length) c5)) 56 := t7.at_ (by omega)
    refine run ?_
    refine retAT (vs := encC bss.length m (.slice A5 (nof bss.length) c5)) rfl rfl rfl (fun i hi => by rw [add_lit, Blk.cell e7]; simp) (by constructor) ⟨⟨A5, c5, rfl, vs ++ vsP, ?_, ?_⟩, ?_⟩
    · have g1 : RowP (fun b => h4.size ≤ b) h5 A5 (vs ++ vsP) := r5.mono (fun b hb he => (o5.base he).1)
      exact ((g1.mods t6.mods (fun b _ hp he => by omega)).mods t7.mods (fun b _ hp he => by omega)).mono (fun b _ hp => by omega)
    · have hF : bss.take bss.length = bss := List.take_of_length_le (Nat.le_refl _)
      rw [hF] at hall
      have g1 : All2 (BsP (fun b => h1.size ≤ b ∧ b ≠ h2.size ∧ (Value.slice A' bss.length c').ownBlock ≠ some b) h') vs (bss.map (fill · m)) := hall.imp fun _ _ hb => hb.mono fun b _ hp => ⟨by omega, by omega, hp.1⟩
      have g2 : All2 (BsP (fun b => h1.size ≤ b ∧ b ≠ h2.size ∧ (Value.slice A' bss.length c').ownBlock ≠ some b) h') vsP (par bss m) := allP.imp fun _ _ hb =>
        ((hb.mono (fun b hb hp => ⟨hp.2, hb⟩ : ∀ b, b < h2.size → _ → (h1.size ≤ b ∧ b < h2.size))).ext x24).mono fun b _ hp => ⟨hp.1, by omega, fun he => by have := (hown.base he).1; omega⟩
      have g3 := g1.append g2
      exact g3.imp fun _ _ hb => (((hb.mods m5 (fun b _ hp he => hp.2.2 he)).mods t6.mods (fun b _ hp he => hp.2.1 he)).mods t7.mods (fun b _ hp he => by have := hp.1; omega)).mono fun b _ hp => by have := hp.1; omega
    · have g0 : Ext h h' := (m1.ext.trans x2).trans x24
      have g1 : Ext h h5 := Mods.ext g0 m5 (fun k hk he => by have := (hown.base he).1; omega)
      have g2 : Ext h h6 := Mods.ext g1 t6.mods (fun k hk he => by omega)
      exact Mods.ext g2 t7.mods (fun k hk he => by omega)
end Go.Proofs.Ytdphoegigdpboaa.E
