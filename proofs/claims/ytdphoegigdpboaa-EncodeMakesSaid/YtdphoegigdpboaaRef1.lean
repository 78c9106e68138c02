/-
  The reference's parities.
-/
import Derived.Test.YtdphoegigdpboaaRnd
set_option linter.unusedVariables false
set_option linter.unusedSimpArgs false
namespace Go.Proofs.Ytdphoegigdpboaa.E
open Go Go.Proofs
set_option maxRecDepth 100000
/-- where ways meet: what holds there is said anew -/
theorem C.join {P : Program} {w0 : World} {n : Nat} {Φ : Post} {σ : Slots} {h : Heap} {c : Code} {A : Slots → Heap → Prop} (I : List (Nat × Value) → Heap → Prop)
    (hx : C P w0 n c (Th (fun σ h => ∃ l, I l h ∧ Holds σ l) Φ) σ h) (hy : ∀ l h τ, I l h → A (ups τ l) h) : C P w0 n c (Th A Φ) σ h := by
  refine hx.mono ?_
  intro e σ h hh
  cases e with
  | normal =>
    obtain ⟨l, hI, hl⟩ := Th.un hh
    have := hy l h σ hI
    rw [ups_of hl] at this
    exact Th.nn this
  | _ => unfold Th at hh ⊢; exact hh
theorem rparities_c (k : Nat) (h : Heap) (h1 : 1 ≤ k) (h2 : k ≤ 64) : Ret Try.prog 29 [.int .i64 (k : Int)] h (fun v h' => OB h' h.size 30 v (pars k) ∧ Ext h h') := by
  refine Ret.enter Try.func29 rfl Try.ntmps29 (by show 1 ≤ 79; decide) fun w0 => ?_
  have hs : sp k ≤ 100 := by simp only [sp]; omega
  have hs1 := sp_pos k
  refine run ?_
  refine C.join (fun l h' => h = h' ∧ l = [(0, .int .i64 (k : Int)), (3, .int .i64 (sp k : Int))]) ?_ ?_
  · by_cases hm : ((k : Int) % 8) ≤ 0
    · have e : (k : Int) / 8 + 1 = (sp k : Int) := by simp only [sp]; omega
      refine C.condF rfl (by simp; omega) ?_
      refine run ?_
      exact ⟨_, ⟨rfl, rfl⟩, rfl, int_eq e, trivial⟩
    · have e : (k : Int) / 8 + 1 + 1 = (sp k : Int) := by simp only [sp]; omega
      refine C.condT rfl (by simp; omega) ?_
      refine run ?_
      exact ⟨_, ⟨rfl, rfl⟩, rfl, int_eq e, trivial⟩
  · rintro l h' τ ⟨rfl, rfl⟩
    refine run ?_
    refine C.loopv (fun m l h' => ∃ j v, j ≤ sp k + 2 ∧ m = sp k + 2 - j ∧ OB h' h.size 30 v ((List.range j).map (parR k)) ∧ Ext h h' ∧
      l = [(0, .int .i64 (k : Int)), (3, .int .i64 (sp k : Int)), (4, v), (17, .int .i64 ((sp k + 2 : Nat) : Int)), (18, .int .i64 (j : Int))]) (sp k + 2) _
      ⟨0, _, by omega, by omega, OB.nil _ _ _, Mods.refl _ _, rfl⟩ ⟨rfl, rfl, rfl, rfl, rfl, trivial⟩ ?_
    rintro m l h' τ ⟨j, v, hj, rfl, ho, hx, rfl⟩
    have hsz := hx.size
    obtain ⟨A', c', rfl⟩ := ho.slice
    have hjl : ((List.range j).map (parR k)).length = j := by simp
    by_cases hlt : j < sp k + 2
    · refine run ?_
      refine L.do1 (D.mk' (l := k) (z := .int .u8 0) rfl rfl rfl (by omega) (by omega)) ?_
      rintro _ h3 ⟨rfl, n3⟩
      have s3 := n3.size
      have o3 : Own h3 h'.size 5 1 (.slice (some ⟨h'.size, 0, none⟩) k k) k (bys (parP k 0 j)) := by
        rw [parP_zero, bys_replicate]; exact n3.made (Nat.le_refl _) (by simp) (by simp only [maxLen]; omega)
      refine run ?_
      refine C.loopv (fun m l h4 => ∃ i, i ≤ k ∧ m = k - i ∧ Mods (fun k => k = h'.size) h3 h4 ∧ Blk h4 h'.size (bys (parP k i j)) 5 ∧
        l = [(0, .int .i64 (k : Int)), (3, .int .i64 (sp k : Int)), (4, .slice A' ((List.range j).map (parR k)).length c'), (5, .int .i64 (j : Int)), (6, .slice (some ⟨h'.size, 0, none⟩) k k), (17, .int .i64 ((sp k + 2 : Nat) : Int)), (18, .int .i64 (j : Int)), (23, .int .i64 (k : Int)), (24, .int .i64 (i : Int))]) k _
        ⟨0, by omega, by omega, Mods.refl _ _, by rw [parP_zero, bys_replicate]; exact n3.at_, rfl⟩ ⟨rfl, rfl, rfl, rfl, rfl, rfl, rfl, rfl, rfl, trivial⟩ ?_
      rintro m l h4 τ ⟨i, hi, rfl, hm4, hb, rfl⟩
      have s4 := hm4.size
      by_cases hik : i < k
      · have stp : ∀ {h5 : Heap} (c : UInt8), c = parC k j i → Set_ h4 h5 h'.size (.cells ((bys (parP k i j)).set i (u8v c)).toArray 5 (0, 0)) → Mods (fun k => k = h'.size) h3 h5 ∧ Blk h5 h'.size (bys (parP k (i + 1) j)) 5 := by
          intro h5 c hc t5
          refine ⟨hm4.trans t5.mods, ?_⟩
          have := t5.at_ (by omega)
          rw [bys_set, parP_set k i j hik c hc] at this
          exact this
        have kee : parC k j i = 0 → Mods (fun k => k = h'.size) h3 h4 ∧ Blk h4 h'.size (bys (parP k (i + 1) j)) 5 := fun hc => ⟨hm4, by rw [← parP_keep k i j hc]; exact hb⟩
        have e1 : ((i : Int) % (sp k : Int)) = ((i % sp k : Nat) : Int) := by push_cast; rfl
        have e2 : ((3 * (i : Int) + 1) % (sp k : Int)) = (((3 * i + 1) % sp k : Nat) : Int) := by push_cast; rfl
        by_cases hjs : j < sp k
        · by_cases c1 : i % sp k = j
          · have hc : (1 : UInt8) = parC k j i := by rw [parC, if_pos hjs, if_pos (.inl c1)]
            refine run ?_
            refine L.op (V.idx rfl rfl (by omega) (by omega)) ?_
            refine L.do0 (D.st (b := h'.size) (o := i) (v := u8v 1) (by show Value.pointer (some (Addr.add ⟨h'.size, 0, none⟩ ((i : Int).toNat * 1))) = _; rw [add_lit]; simp) rfl rfl hb (by rw [bys_length, parP_len]; exact hik)) ?_
            rintro _ h5 t5
            obtain ⟨a5, b5⟩ := stp 1 hc t5
            refine run ?_
            exact ⟨_, _, by omega, ⟨i + 1, by omega, rfl, a5, b5, rfl⟩, rfl, rfl, rfl, rfl, rfl, rfl, rfl, rfl, int_eq (by omega), trivial⟩
          · by_cases c2 : (3 * i + 1) % sp k = j
            · have hc : (1 : UInt8) = parC k j i := by rw [parC, if_pos hjs, if_pos (.inr c2)]
              refine run ?_
              refine L.op (V.idx rfl rfl (by omega) (by omega)) ?_
              refine L.do0 (D.st (b := h'.size) (o := i) (v := u8v 1) (by show Value.pointer (some (Addr.add ⟨h'.size, 0, none⟩ ((i : Int).toNat * 1))) = _; rw [add_lit]; simp) rfl rfl hb (by rw [bys_length, parP_len]; exact hik)) ?_
              rintro _ h5 t5
              obtain ⟨a5, b5⟩ := stp 1 hc t5
              refine run ?_
              exact ⟨_, _, by omega, ⟨i + 1, by omega, rfl, a5, b5, rfl⟩, rfl, rfl, rfl, rfl, rfl, rfl, rfl, rfl, int_eq (by omega), trivial⟩
            · obtain ⟨a5, b5⟩ := kee (by rw [parC, if_pos hjs, if_neg (by rintro (h | h); exact c1 h; exact c2 h)])
              refine run ?_
              exact ⟨_, _, by omega, ⟨i + 1, by omega, rfl, a5, b5, rfl⟩, rfl, rfl, rfl, rfl, rfl, rfl, rfl, rfl, int_eq (by omega), trivial⟩
        · by_cases c3 : j = sp k
          · have hc : Gf.powN 2 (i + 1) = parC k j i := by rw [parC, if_neg hjs, if_pos c3]
            refine run ?_
            refine L.cq rfl (show RetQ _ _ [.int .u8 2, .int .i64 ((i : Int) + 1)] _ (u8v (Gf.powN 2 (i + 1))) from rpow_c 2 (i + 1) (by omega) h4) ?_
            refine L.op (V.idx rfl rfl (by omega) (by omega)) ?_
            refine L.do0 (D.st (b := h'.size) (o := i) (v := u8v (Gf.powN 2 (i + 1))) (by show Value.pointer (some (Addr.add ⟨h'.size, 0, none⟩ ((i : Int).toNat * 1))) = _; rw [add_lit]; simp) rfl rfl hb (by rw [bys_length, parP_len]; exact hik)) ?_
            rintro _ h5 t5
            obtain ⟨a5, b5⟩ := stp _ hc t5
            refine run ?_
            exact ⟨_, _, by omega, ⟨i + 1, by omega, rfl, a5, b5, rfl⟩, rfl, rfl, rfl, rfl, rfl, rfl, rfl, rfl, int_eq (by omega), trivial⟩
          · have hc : Gf.powN 2 (2 * (i + 1)) = parC k j i := by rw [parC, if_neg hjs, if_neg c3]
            have e3 : 2 * ((i : Int) + 1) = ((2 * (i + 1) : Nat) : Int) := by push_cast; rfl
            refine run ?_
            refine L.cq rfl (show RetQ _ _ [.int .u8 2, .int .i64 (2 * ((i : Int) + 1))] _ (u8v (Gf.powN 2 (2 * (i + 1)))) from by rw [e3]; exact rpow_c 2 (2 * (i + 1)) (by omega) h4) ?_
            refine L.op (V.idx rfl rfl (by omega) (by omega)) ?_
            refine L.do0 (D.st (b := h'.size) (o := i) (v := u8v (Gf.powN 2 (2 * (i + 1)))) (by show Value.pointer (some (Addr.add ⟨h'.size, 0, none⟩ ((i : Int).toNat * 1))) = _; rw [add_lit]; simp) rfl rfl hb (by rw [bys_length, parP_len]; exact hik)) ?_
            rintro _ h5 t5
            obtain ⟨a5, b5⟩ := stp _ hc t5
            refine run ?_
            exact ⟨_, _, by omega, ⟨i + 1, by omega, rfl, a5, b5, rfl⟩, rfl, rfl, rfl, rfl, rfl, rfl, rfl, rfl, int_eq (by omega), trivial⟩
      · obtain rfl : i = k := by omega
        refine run ?_
        refine L.do1 (D.bs1i (z := .slice none 0 0) (by constructor) rfl rfl) ?_
        rintro _ h5 ⟨rfl, n5⟩
        obtain ⟨vs, hown, hal⟩ := ho
        have x4 : Ext h' h4 := Mods.ext n3.ext hm4 (fun k hk he => by omega)
        have x5 : Ext h' h5 := x4.trans n5.ext
        have s5 := x5.size
        refine L.do1 (D.appendi (z := .slice none 0 0) (by constructor) rfl (hown.ext x5) (Row.of_blk n5.at_) rfl (by simp [Value.oneCell']) rfl (by decide) (by decide) (by rw [hjl]; omega) (by omega)) ?_
        rintro v' h6 ⟨o6, m6, hv6⟩
        have hu : BsP (fun b => (Value.slice A' ((List.range j).map (parR i)).length c').ownBlock ≠ some b ∧ h.size ≤ b) h5 (.slice (some ⟨h'.size, 0, none⟩) i i) (parR i j) := by
          refine ⟨_, _, by rw [parR_len], by rw [parR_len]; omega, .inr ⟨h'.size, 0, _, _, _, rfl, ⟨fun he => ?_, by omega⟩, n5.ext.at hb, fun x hx => ?_⟩⟩
          · have := (hown.base he).2; omega
          · rw [parP_all]; simp
        have hob := OB.push (hal.imp fun _ _ hb => hb.ext x5) hu o6 m6 hv6
        have e : (List.range j).map (parR i) ++ [parR i j] = (List.range (j + 1)).map (parR i) := by rw [List.range_succ, List.map_append]; rfl
        rw [e] at hob
        obtain ⟨A6, c6, rfl⟩ := hob.slice
        refine run ?_
        refine ⟨_, _, by omega, ⟨j + 1, _, by omega, rfl, hob, ?_, rfl⟩, rfl, rfl, rfl, rfl, int_eq (by omega), trivial⟩
        exact Mods.ext (hx.trans x5) m6 (fun k hk he => by have := (hown.base he).1; omega)
    · obtain rfl : j = sp k + 2 := by omega
      refine run ?_
      exact ret1 rfl (by constructor) ⟨ho, hx⟩
end Go.Proofs.Ytdphoegigdpboaa.E
