/-
  encode.Symbol, Symbols.
-/
import Derived.Test.YtdphoegigdpboaaEnc2
set_option linter.unusedVariables false
set_option linter.unusedSimpArgs false
namespace Go.Proofs.Ytdphoegigdpboaa.E
open Go Go.Proofs
set_option maxRecDepth 100000
theorem runP_lt (n : Nat) (x0 : UInt32) (hn : 1 ≤ n) : ∀ i, i ≤ n → ∀ x ∈ (runP n x0 i).ps, x.1 < n
  | 0, _, x, hx => by simp [runP] at hx
  | i + 1, hi, x, hx => by
    simp only [runP, stepP, List.mem_append, List.mem_singleton] at hx
    rcases hx with hx | rfl
    · exact runP_lt n x0 hn i (by omega) x hx
    · obtain ⟨ts, hts, hz⟩ := free_at (runP n x0 i).o n ((next32 (runP n x0 i).x).toNat % n) (Nat.mod_lt _ hn) (free_of _ n (runP_len n x0 i) (by have := runP_took n x0 i; omega))
      exact (pr_free _ n _ ts hts hz ts 0 (by omega)).1
theorem picked_lt (k : Nat) (id : UInt32) : ∀ x ∈ (picked k id).ps, x.1 < nof k :=
  runP_lt (nof k) (x0of k id) (by unfold nof; omega) (dof k id) (deg_le _ _ (by unfold nof; omega))
theorem axs_len (m : Nat) (LL : List (List UInt8)) (cs : List UInt8) (hL : ∀ x ∈ LL, x.length = m) (hl : LL.length = cs.length) : (axs m LL cs).length = m := by
  rw [← axsP_all m LL cs hl]; exact axsP_len m LL cs hL _ (Nat.le_refl _) (by omega)
theorem allOf_len (bss : List (List UInt8)) (m : Nat) : (allOf bss m).length = nof bss.length := by simp [allOf, par_len, nof]
theorem allOf_each (bss : List (List UInt8)) (m : Nat) : ∀ x ∈ allOf bss m, x.length = m := by
  intro x hx
  rcases List.mem_append.1 hx with hx | hx
  · obtain ⟨y, _, rfl⟩ := List.mem_map.1 hx; exact fill_len y m
  · obtain ⟨y, hy, rfl⟩ := List.mem_map.1 hx
    obtain ⟨j, _, rfl⟩ := List.mem_map.1 hy
    exact axs_len m _ _ (by intro z hz; obtain ⟨u, _, rfl⟩ := List.mem_map.1 hz; exact fill_len u m) (by simp [parR_len])
theorem esymbol_bad {p : Nat → Prop} (A : Option Addr) (c : Nat) (bss : List (List UInt8)) (size : Int) (id : UInt32) (h : Heap) (hA : Bss p h A bss) (hm : bss.length ≤ 1000) (hb : bad bss size ≠ 0) :
    Ret Try.prog 10 [.slice A bss.length c, .int .i64 size, u32v id] h (fun r h' => r = .tuple #[.slice none 0 0, .int .i64 (bad bss size : Int)] ∧ Ext h h') := by
  refine Ret.enter Try.func10 rfl Try.ntmps10 (by show 3 ≤ 22; decide) fun w0 => ?_
  refine run ?_
  refine L.c1 rfl (begin_bad A c bss size h hA hm hb) ?_
  rintro _ h1 ⟨rfl, x1⟩
  have s1 := x1.size
  have hb' : (bad bss size : Int) ≠ 0 := by omega
  refine run ?_
  refine L.do1 (D.al (cs := [.int .i64 0, .int .i64 0, .slice none 0 0]) rfl) ?_
  rintro _ h2 ⟨rfl, m2⟩
  have s2 := m2.size
  refine L.do0 (D.sta (b := h1.size) (cs := [.int .i64 0, .int .i64 0, .slice none 0 0]) (vs := [.int .i64 0, .int .i64 0, .slice none 0 0]) rfl rfl rfl (by intro v hv; simp at hv; rcases hv with rfl | rfl | rfl <;> rfl) m2.at_ rfl) ?_
  rintro _ h3 t3
  have x3 : Ext h1 h3 := Mods.ext m2.ext t3.mods (fun k hk he => by omega)
  refine run ?_
  exact ret2 rfl (by constructor) (by constructor) ⟨rfl, x1.trans x3⟩
theorem esymbol_c {p : Nat → Prop} (A : Option Addr) (c : Nat) (bss : List (List UInt8)) (m : Nat) (id : UInt32) (h : Heap) (hA : Bss p h A bss) (hb : bad bss (m : Int) = 0) :
    Ret Try.prog 10 [.slice A bss.length c, .int .i64 (m : Int), u32v id] h (fun r h' => (∃ v ps, r = .tuple #[v, .int .i64 0] ∧ ps.Perm (picked bss.length id).ps ∧ BsP (fun b => h.size ≤ b) h' v (symP m (allOf bss m) ps)) ∧ Ext h h') := by
  obtain ⟨hm1, hm2, hk1, hk2, hlen⟩ := bad_zero hb
  refine Ret.enter Try.func10 rfl Try.ntmps10 (by show 3 ≤ 22; decide) fun w0 => ?_
  refine run ?_
  refine L.c1 rfl (begin_c A c bss m h hA hb) ?_
  rintro _ h1 ⟨⟨B, cb, rfl, hB⟩, x1⟩
  have s1 := x1.size
  refine run ?_
  refine L.do1 (D.al (cs := [.int .i64 0, .int .i64 0, .slice none 0 0]) rfl) ?_
  rintro _ h2 ⟨rfl, m2⟩
  have s2 := m2.size
  refine L.do0 (D.sta (b := h1.size) (cs := [.int .i64 0, .int .i64 0, .slice none 0 0]) (vs := encC bss.length m (.slice B (nof bss.length) cb)) rfl rfl rfl (by intro v hv; simp [encC] at hv; rcases hv with rfl | rfl | rfl <;> rfl) m2.at_ rfl) ?_
  rintro _ h3 t3
  have s3 := t3.size
  have b3 : Blk h3 h1.size (encC bss.length m (.slice B (nof bss.length) cb)) 56 := t3.at_ (by omega)
  have x3 : Ext h1 h3 := Mods.ext m2.ext t3.mods (fun k hk he => by omega)
  refine run ?_
  refine L.op (V.loada (vs := encC bss.length m (.slice B (nof bss.length) cb)) rfl rfl (fun j hj => by rw [add_lit, Blk.cell b3]; simp)) ?_
  refine run ?_
  refine L.c1 rfl (symbol_c B cb bss.length m id (allOf bss m) h3 hk1 hk2 (by omega) (hB.ext x3) (allOf_len bss m) (allOf_each bss m) (picked_lt _ _)) ?_
  rintro v h4 ⟨⟨ps, hp, hv⟩, x4⟩
  obtain ⟨A4, c4, hv4, -⟩ := hv.slice
  subst hv4
  refine run ?_
  exact ret2 rfl (by constructor) (by constructor) ⟨⟨_, ps, rfl, hp, hv.mono fun b _ hb => by omega⟩, (x1.trans x3).trans x4⟩
def ids32 (ids : List UInt32) : List Value := ids.map u32v
def SymOf (bss : List (List UInt8)) (m : Nat) (id : UInt32) (bs : List UInt8) : Prop := ∃ ps, ps.Perm (picked bss.length id).ps ∧ bs = symP m (allOf bss m) ps
theorem symbols_c {p : Nat → Prop} (A I : Option Addr) (c ci : Nat) (bss : List (List UInt8)) (m : Nat) (ids : List UInt32) (h : Heap) (hA : Bss p h A bss) (hI : Row h I (ids32 ids)) (hb : bad bss (m : Int) = 0) (hn : ids.length ≤ 64) :
    Ret Try.prog 8 [.slice A bss.length c, .int .i64 (m : Int), .slice I ids.length ci] h (fun r h' => (∃ v outs, r = .tuple #[v, .int .i64 0] ∧ OB h' h.size 30 v outs ∧ outs.length = ids.length ∧ (∀ i (h1 : i < ids.length) (h2 : i < outs.length), SymOf bss m ids[i] outs[i])) ∧ Ext h h') := by
  obtain ⟨hm1, hm2, hk1, hk2, hlen⟩ := bad_zero hb
  refine Ret.enter Try.func8 rfl Try.ntmps8 (by show 3 ≤ 41; decide) fun w0 => ?_
  refine run ?_
  refine L.c1 rfl (begin_c A c bss m h hA hb) ?_
  rintro _ h1 ⟨⟨B, cb, rfl, hB⟩, x1⟩
  have s1 := x1.size
  refine run ?_
  refine L.do1 (D.al (cs := [.int .i64 0, .int .i64 0, .slice none 0 0]) rfl) ?_
  rintro _ h2 ⟨rfl, m2⟩
  have s2 := m2.size
  refine L.do0 (D.sta (b := h1.size) (cs := [.int .i64 0, .int .i64 0, .slice none 0 0]) (vs := encC bss.length m (.slice B (nof bss.length) cb)) rfl rfl rfl (by intro v hv; simp [encC] at hv; rcases hv with rfl | rfl | rfl <;> rfl) m2.at_ rfl) ?_
  rintro _ h3 t3
  have s3 := t3.size
  have b3 : Blk h3 h1.size (encC bss.length m (.slice B (nof bss.length) cb)) 56 := t3.at_ (by omega)
  have x3 : Ext h1 h3 := Mods.ext m2.ext t3.mods (fun k hk he => by omega)
  refine run ?_
  refine C.loopv (fun k l h' => ∃ i v outs, i ≤ ids.length ∧ k = ids.length - i ∧ OB h' h3.size 30 v outs ∧ outs.length = i ∧ (∀ j (g1 : j < ids.length) (g2 : j < outs.length), SymOf bss m ids[j] outs[j]) ∧ Ext h3 h' ∧
    l = [(8, .pointer (some ⟨h1.size, 0, none⟩)), (10, v), (27, .slice I ids.length ci), (28, .int .i64 (ids.length : Int)), (29, .int .i64 (i : Int))]) ids.length _
    ⟨0, _, [], by omega, by omega, OB.nil _ _ _, rfl, fun j _ g2 => by simp at g2, Mods.refl _ _, rfl⟩ ⟨rfl, rfl, rfl, rfl, rfl, trivial⟩ ?_
  rintro k l h' τ ⟨i, v, outs, hi, rfl, ho, hol, hall, hx, rfl⟩
  have s4 := hx.size
  obtain ⟨A', c', hv⟩ := ho.slice
  rw [hol] at hv
  subst hv
  by_cases hlt : i < ids.length
  · obtain ⟨a, rfl, hc⟩ := (hI.ext ((x1.trans x3).trans hx)).cell (i := i) (by simp [ids32]; exact hlt)
    have hci : cellH h' (a.add i) = some (u32v ids[i]) := by rw [hc]; simp [ids32]
    refine run ?_
    refine L.op (V.idx rfl rfl (by omega) (by omega)) ?_
    refine L.op (V.load (v := u32v ids[i]) rfl (by simpa using hci)) ?_
    refine run ?_
    refine L.op (V.loada (vs := encC bss.length m (.slice B (nof bss.length) cb)) rfl rfl (fun j hj => by rw [add_lit, Blk.cell (hx.at b3)]; simp)) ?_
    refine run ?_
    refine L.c1 rfl (symbol_c B cb bss.length m ids[i] (allOf bss m) h' hk1 hk2 (by omega) ((hB.ext x3).ext hx) (allOf_len bss m) (allOf_each bss m) (picked_lt _ _)) ?_
    rintro u h4 ⟨⟨ps, hp, hu⟩, x4⟩
    obtain ⟨A4, c4, hu4, -⟩ := hu.slice
    subst hu4
    refine L.do1 (D.bs1i (z := .slice none 0 0) (by constructor) rfl rfl) ?_
    rintro _ h5 ⟨rfl, n5⟩
    obtain ⟨vs, hown, hal⟩ := ho
    rw [hol] at hown
    have x5 : Ext h' h5 := x4.trans n5.ext
    have s5 := x5.size
    refine L.do1 (D.appendi (z := .slice none 0 0) (by constructor) rfl (hown.ext x5) (Row.of_blk n5.at_) rfl (by simp [Value.oneCell']) rfl (by decide) (by decide) (by omega) (by omega)) ?_
    rintro v' h6 ⟨o6, m6, hv6⟩
    have o6' : Own h6 h3.size 30 1 v' (outs.length + 1) (vs ++ [.slice A4 (symP m (allOf bss m) ps).length c4]) := by rw [hol]; exact o6
    have hu' : BsP (fun b => (Value.slice A' i c').ownBlock ≠ some b ∧ h3.size ≤ b) h5 (.slice A4 (symP m (allOf bss m) ps).length c4) (symP m (allOf bss m) ps) :=
      (hu.ext n5.ext).mono (fun b _ hb => ⟨fun he => by have := (hown.base he).2; omega, by omega⟩)
    have hob := OB.push (hal.imp fun _ _ hb => hb.ext x5) hu' o6' m6 hv6
    obtain ⟨A6, c6, hv6'⟩ := hob.slice
    subst hv6'
    refine run ?_
    refine ⟨_, _, by omega, ⟨i + 1, _, outs ++ [symP m (allOf bss m) ps], by omega, rfl, hob, by simp [hol], fun j g1 g2 => ?_, Mods.ext (hx.trans x5) m6 (fun k hk he => by have := (hown.base he).1; omega), rfl⟩, rfl, rfl, rfl, rfl, int_eq (by omega), trivial⟩
    by_cases hji : j < outs.length
    · rw [List.getElem_append_left hji]; exact hall j g1 hji
    · obtain rfl : j = outs.length := by simp at g2; omega
      subst hol
      simp only [List.getElem_concat_length]
      exact ⟨ps, hp, rfl⟩
  · obtain rfl : i = ids.length := by omega
    refine run ?_
    refine ret2 rfl (by constructor) (by constructor) ⟨⟨_, outs, rfl, ?_, hol, hall⟩, (x1.trans x3).trans hx⟩
    obtain ⟨vs, hown, hal⟩ := ho
    exact ⟨vs, hown.low (by omega), hal.imp fun _ _ hb => hb.mono fun b _ hp => ⟨hp.1, by omega⟩⟩
end Go.Proofs.Ytdphoegigdpboaa.E
