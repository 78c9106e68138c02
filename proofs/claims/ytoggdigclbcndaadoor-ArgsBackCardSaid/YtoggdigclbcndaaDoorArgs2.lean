/-
  Package args, walked: parseCreate.
-/
import Derived.Test.YtoggdigclbcndaaDoorArgs1
set_option linter.unusedVariables false
set_option linter.unusedSimpArgs false
namespace Go.Proofs.YtoggdigclbcndaaDoor.E
open Go Go.Proofs Go.RowKit
set_option maxRecDepth 100000
def crP (ws : List (List UInt8)) : AR × Int :=
  if ws.length < 3 ∨ numU (ws.getD 0 []) < 0 ∨ numU (ws.getD 1 []) < 0 then (AZ, 2)
  else if ¬ (1 ≤ numU (ws.getD 0 []) ∧ numU (ws.getD 0 []) ≤ 256) ∨ ¬ (0 ≤ numU (ws.getD 1 []) ∧ numU (ws.getD 1 []) ≤ 64) then (AZ, 1)
  else if (ws.drop 2).all rightB = false then (AZ, 12)
  else if 8 < (ws.drop 2).length then (AZ, 5)
  else (⟨createS, numU (ws.getD 0 []), numU (ws.getD 1 []), 0, ws.drop 2⟩, 0)
theorem RowP.drop {p : Nat → Prop} {h : Heap} {A : Option Addr} {vs : List Value} (r : RowP p h A vs) (n : Nat) : RowP p h (A.map (·.add n)) (vs.drop n) := by
  rcases r with r | ⟨b, o, cs, t, z, hA, hp, hb, hc⟩
  · subst r; exact .inl (by simp)
  · refine .inr ⟨b, o + n, cs, t, z, by rw [hA, Option.map_some, add_lit], hp, hb, fun i hi => ?_⟩
    simp only [List.length_drop] at hi
    rw [Nat.add_assoc, hc (n + i) (by omega), List.getElem?_drop]
set_option maxHeartbeats 2000000 in
theorem parseCreate_c {p : Nat → Prop} (A : Option Addr) (c : Nat) (ws : List (List UInt8)) (h : Heap) (hV : Vars h) (hA : RowP p h A (ws.map S)) (hcap : ws.length ≤ c) (hwl : ws.length ≤ 1000000000) (hw : ∀ w ∈ ws, w.length ≤ 1000000) :
    Ret Tryd.prog 29 [.slice A ws.length c] h (fun v h' => ARes p (crP ws) v h' ∧ Ext h h') := by
  refine Ret.enter Tryd.func29 rfl Tryd.ntmps29 (by show 1 ≤ 69; decide) fun w0 => ?_
  refine run ?_
  refine L.do1 (D.al (cs := ARv AZ (.slice none 0 0)) rfl) ?_
  rintro _ h1 ⟨rfl, n1⟩
  have x1 := n1.ext
  have s1 := n1.size
  have b1 : Blk h1 h.size (ARv AZ (.slice none 0 0)) 32 := n1.at_
  have hV1 := hV.ext x1
  have hA1 := hA.ext x1
  unfold crP
  by_cases hl : ws.length < 3
  · rw [if_pos (.inl hl)]
    refine run ?_
    refine L.op (V.buildS (zl := ARv AZ (.slice none 0 0)) (cells := ARv AZ (.slice none 0 0)) (vals := []) rfl rfl rfl) ?_
    refine L.do0 (D.sta (b := h.size) (cs := ARv AZ (.slice none 0 0)) (vs := ARv AZ (.slice none 0 0)) rfl rfl rfl zeroA (b1) rfl) ?_
    rintro _ hz tz
    refine run ?_
    exact retCT (vs := ARv AZ (.slice none 0 0)) rfl rfl rfl (fun i hi => by rw [add_lit, Blk.cell (tz.at_ (by omega))]; simp) (by constructor) ⟨ARes.bad _ 2 hz, Mods.ext x1 tz.mods (fun k hk he => by omega)⟩
  · have g0 : ws.getD 0 [] = ws[0] := by simp [List.getD_eq_getElem?_getD, List.getElem?_eq_getElem (by omega : 0 < ws.length)]
    have g1 : ws.getD 1 [] = ws[1] := by simp [List.getD_eq_getElem?_getD, List.getElem?_eq_getElem (by omega : 1 < ws.length)]
    have m0 := hw _ (List.getElem_mem (by omega : 0 < ws.length))
    have m1 := hw _ (List.getElem_mem (by omega : 1 < ws.length))
    rw [g0, g1]
    obtain ⟨a, rfl, c0⟩ := strs_at hA1 (i := 0) (by omega)
    obtain ⟨_, ha, c1⟩ := strs_at hA1 (i := 1) (by omega)
    cases ha
    obtain ⟨p0, hp0⟩ : ∃ p0, p0 = ws[0] := ⟨_, rfl⟩
    obtain ⟨p1, hp1⟩ : ∃ p1, p1 = ws[1] := ⟨_, rfl⟩
    rw [← hp0] at m0 c0 ⊢
    rw [← hp1] at m1 c1 ⊢
    have d0 := numU_le p0
    have d1 := numU_le p1
    refine run ?_
    refine L.gyes rfl rfl (V.idx rfl rfl (by omega) (by omega)) ?_
    refine L.gyes rfl rfl (V.load (v := S p0) rfl c0) ?_
    refine L.c1g rfl rfl rfl (number32_c p0 h1 hV1 (by omega)) ?_
    rintro _ h2 ⟨rfl, x2⟩
    have b2 : Blk h2 h.size (ARv AZ (.slice none 0 0)) 32 := x2.at b1
    by_cases n0 : numU p0 < 0
    · rw [if_pos (.inr (.inl n0))]
      refine run ?_
      refine L.op (V.buildS (zl := ARv AZ (.slice none 0 0)) (cells := ARv AZ (.slice none 0 0)) (vals := []) rfl rfl rfl) ?_
      refine L.do0 (D.sta (b := h.size) (cs := ARv AZ (.slice none 0 0)) (vs := ARv AZ (.slice none 0 0)) rfl rfl rfl zeroA (b2) rfl) ?_
      rintro _ hz tz
      refine run ?_
      exact retCT (vs := ARv AZ (.slice none 0 0)) rfl rfl rfl (fun i hi => by rw [add_lit, Blk.cell (tz.at_ (by have := (x2).size; omega))]; simp) (by constructor) ⟨ARes.bad _ 2 hz, Mods.ext (x1.trans x2) tz.mods (fun k hk he => by omega)⟩
    · refine run ?_
      refine L.gyes rfl rfl (V.idx rfl rfl (by omega) (by omega)) ?_
      refine L.gyes rfl rfl (V.load (v := S p1) rfl (x2.cell c1)) ?_
      refine L.c1g rfl rfl rfl (number32_c p1 h2 (hV1.ext x2) (by omega)) ?_
      rintro _ h3 ⟨rfl, x3⟩
      have x23 : Ext h1 h3 := x2.trans x3
      have b3 : Blk h3 h.size (ARv AZ (.slice none 0 0)) 32 := x23.at b1
      by_cases n1' : numU p1 < 0
      · rw [if_pos (.inr (.inr n1'))]
        refine run ?_
        refine L.op (V.buildS (zl := ARv AZ (.slice none 0 0)) (cells := ARv AZ (.slice none 0 0)) (vals := []) rfl rfl rfl) ?_
        refine L.do0 (D.sta (b := h.size) (cs := ARv AZ (.slice none 0 0)) (vs := ARv AZ (.slice none 0 0)) rfl rfl rfl zeroA (b3) rfl) ?_
        rintro _ hz tz
        refine run ?_
        exact retCT (vs := ARv AZ (.slice none 0 0)) rfl rfl rfl (fun i hi => by rw [add_lit, Blk.cell (tz.at_ (by have := (x23).size; omega))]; simp) (by constructor) ⟨ARes.bad _ 2 hz, Mods.ext (x1.trans x23) tz.mods (fun k hk he => by omega)⟩
      · rw [if_neg (by omega)]
        obtain ⟨ns, hns⟩ : ∃ ns, ns = ws.drop 2 := ⟨_, rfl⟩
        have hnl : ns.length = ws.length - 2 := by rw [hns, List.length_drop]
        have hN3 : RowP p h3 (some (a.add (2 * 1))) (ns.map S) := by
          have := (hA1.ext x23).drop 2
          rw [← List.map_drop, ← hns] at this
          exact this
        have hwn : ∀ w ∈ ns, w.length ≤ 1000000 := fun w hm => hw w (by rw [hns] at hm; exact List.mem_of_mem_drop hm)
        rw [← hns]
        refine run ?_
        refine L.op (V.cut (i := 2) (j := ws.length) rfl (.inr ⟨.i64, rfl⟩) (.inl ⟨rfl, rfl⟩) (by omega) hcap) ?_
        rw [if_neg (by omega : ¬ c = 2), ← hnl]
        change L _ _ _ _ _ _ _ (upd _ 28 (.slice (some (a.add (2 * 1))) ns.length (c - 2))) _
        refine L.op (V.buildS (zl := ARv AZ (.slice none 0 0)) (cells := ARv ⟨createS, 0, 0, 0, ns⟩ (.slice (some (a.add (2 * 1))) ns.length (c - 2))) (vals := [(0, S createS), (4, .slice (some (a.add (2 * 1))) ns.length (c - 2))]) rfl rfl rfl) ?_
        refine L.do1 (D.al (cs := ARv AZ (.slice none 0 0)) rfl) ?_
        rintro _ h4 ⟨rfl, n4⟩
        have s4 := n4.size
        have q3 := x23.size
        refine L.do0 (D.sta (b := h3.size) (cs := ARv AZ (.slice none 0 0)) (vs := ARv ⟨createS, 0, 0, 0, ns⟩ (.slice (some (a.add (2 * 1))) ns.length (c - 2))) rfl rfl rfl (by intro v hv; simp only [ARv, List.mem_cons, List.not_mem_nil, or_false] at hv; rcases hv with rfl | rfl | rfl | rfl | rfl <;> rfl) n4.at_ rfl) ?_
        rintro _ h5 t5
        have s5 := t5.size
        have x35 : Ext h3 h5 := Mods.ext n4.ext t5.mods (fun k hk he => by omega)
        have x15 : Ext h1 h5 := x23.trans x35
        have e5 : Blk h5 h3.size (ARv ⟨createS, 0, 0, 0, ns⟩ (.slice (some (a.add (2 * 1))) ns.length (c - 2))) 32 := t5.at_ (by omega)
        refine run ?_
        refine C.mix (fun hh => Ext h5 hh) (fun i => i == 3 || i == 7) mixed (by kernel_rfl) (Mods.refl _ _) ?_
        refine run ?_
        refine M.op (fun hh hG => V.idx rfl rfl (by omega) (by omega)) ?_
        refine M.op (fun hh hG => V.load (v := S p0) rfl (hG.cell (x15.cell c0))) ?_
        refine M.c1 rfl rfl (number32_c p0 h5 (hV1.ext x15) (by omega)) ?_
        rintro _ h6 ⟨rfl, x6⟩
        refine ⟨x6, ?_⟩
        refine run ?_
        refine M.op (fun hh hG => V.idx rfl rfl (by omega) (by omega)) ?_
        refine M.op (fun hh hG => V.load (v := S p1) rfl (hG.cell (x15.cell c1))) ?_
        refine M.c1 rfl rfl (number32_c p1 h6 (hV1.ext (x15.trans x6)) (by omega)) ?_
        rintro _ h7 ⟨rfl, x7⟩
        have x57 : Ext h5 h7 := x6.trans x7
        refine ⟨x57, ?_⟩
        have x17 : Ext h1 h7 := x15.trans x57
        have b7 : Blk h7 h.size (ARv AZ (.slice none 0 0)) 32 := x17.at b1
        have e7 : Blk h7 h3.size (ARv ⟨createS, 0, 0, 0, ns⟩ (.slice (some (a.add (2 * 1))) ns.length (c - 2))) 32 := x57.at e5
        have q7 := x57.size
        refine run ?_
        refine L.cq rfl (within_c (numU p0) 1 256 h7) ?_
        by_cases i0 : 1 ≤ numU p0 ∧ numU p0 ≤ 256
        rotate_left
        · rw [if_pos (.inl i0), decide_eq_false i0]
          refine run ?_
          refine L.op (V.buildS (zl := ARv AZ (.slice none 0 0)) (cells := ARv AZ (.slice none 0 0)) (vals := []) rfl rfl rfl) ?_
          refine L.do0 (D.sta (b := h.size) (cs := ARv AZ (.slice none 0 0)) (vs := ARv AZ (.slice none 0 0)) rfl rfl rfl zeroA (b7) rfl) ?_
          rintro _ hz tz
          refine run ?_
          exact retCT (vs := ARv AZ (.slice none 0 0)) rfl rfl rfl (fun i hi => by rw [add_lit, Blk.cell (tz.at_ (by have := (x17).size; omega))]; simp) (by constructor) ⟨ARes.bad _ 1 hz, Mods.ext (x1.trans x17) tz.mods (fun k hk he => by omega)⟩
        rw [decide_eq_true i0]
        refine run ?_
        refine L.cqg rfl rfl rfl (within_c (numU p1) 0 64 h7) ?_
        by_cases i1 : 0 ≤ numU p1 ∧ numU p1 ≤ 64
        rotate_left
        · rw [if_pos (.inr i1), decide_eq_false i1]
          refine run ?_
          refine L.op (V.buildS (zl := ARv AZ (.slice none 0 0)) (cells := ARv AZ (.slice none 0 0)) (vals := []) rfl rfl rfl) ?_
          refine L.do0 (D.sta (b := h.size) (cs := ARv AZ (.slice none 0 0)) (vs := ARv AZ (.slice none 0 0)) rfl rfl rfl zeroA (b7) rfl) ?_
          rintro _ hz tz
          refine run ?_
          exact retCT (vs := ARv AZ (.slice none 0 0)) rfl rfl rfl (fun i hi => by rw [add_lit, Blk.cell (tz.at_ (by have := (x17).size; omega))]; simp) (by constructor) ⟨ARes.bad _ 1 hz, Mods.ext (x1.trans x17) tz.mods (fun k hk he => by omega)⟩
        rw [decide_eq_true i1, if_neg (by omega)]
        refine run ?_
        refine L.op (V.load (v := .slice (some (a.add (2 * 1))) ns.length (c - 2)) rfl (by rw [Blk.cell e7]; rfl)) ?_
        refine run ?_
        have hN7 := hN3.ext (x35.trans x57)
        refine C.loopv (fun k lv h' => ∃ i, i ≤ ns.length ∧ k = ns.length - i ∧ Ext h7 h' ∧ (∀ j (hj : j < ns.length), j < i → rightB ns[j] = true) ∧
          lv = [(2, .pointer (some ⟨h.size, 0, none⟩)), (4, .pointer (some ⟨h3.size, 0, none⟩)), (5, .int .i64 (numU p0)), (6, .int .i64 (numU p1)), (48, .slice (some (a.add (2 * 1))) ns.length (c - 2)), (49, .int .i64 (ns.length : Int)), (50, .int .i64 (i : Int))]) ns.length _ ⟨0, by omega, by omega, Mods.refl _ _, fun j _ hj => by omega, rfl⟩ ⟨rfl, rfl, rfl, rfl, rfl, rfl, rfl, trivial⟩ ?_
        rintro k lv h8 τ ⟨i, hi, rfl, hx, hall, rfl⟩
        have x18 : Ext h1 h8 := x17.trans hx
        have b8 : Blk h8 h.size (ARv AZ (.slice none 0 0)) 32 := x18.at b1
        have e8 : Blk h8 h3.size (ARv ⟨createS, 0, 0, 0, ns⟩ (.slice (some (a.add (2 * 1))) ns.length (c - 2))) 32 := hx.at e7
        have q8 := hx.size
        by_cases hlt : i < ns.length
        · obtain ⟨a', ha', hci⟩ := strs_at (hN7.ext hx) hlt
          cases ha'
          refine run ?_
          refine L.op (V.idx rfl rfl (by omega) (by omega)) ?_
          refine L.op (V.load (v := S ns[i]) rfl (by simpa using hci)) ?_
          refine run ?_
          refine L.c1 rfl (right_c ns[i] h8 (hV1.ext x18) (hwn _ (List.getElem_mem hlt))) ?_
          rintro _ h9 ⟨rfl, x9⟩
          cases hp : rightB ns[i] with
          | true =>
            refine run ?_
            refine ⟨_, _, by omega, ⟨i + 1, by omega, rfl, hx.trans x9, fun j hj hji => ?_, rfl⟩, rfl, rfl, rfl, rfl, rfl, rfl, int_eq (by omega), trivial⟩
            by_cases hji' : j = i
            · subst hji'; exact hp
            · exact hall j hj (by omega)
          | false =>
            have hA : ns.all rightB = false := by
              rw [List.all_eq_false]; exact ⟨_, List.getElem_mem hlt, by rw [hp]; decide⟩
            rw [if_pos hA]
            have x19 : Ext h1 h9 := x18.trans x9
            have b9 : Blk h9 h.size (ARv AZ (.slice none 0 0)) 32 := x19.at b1
            refine run ?_
            refine L.op (V.buildS (zl := ARv AZ (.slice none 0 0)) (cells := ARv AZ (.slice none 0 0)) (vals := []) rfl rfl rfl) ?_
            refine L.do0 (D.sta (b := h.size) (cs := ARv AZ (.slice none 0 0)) (vs := ARv AZ (.slice none 0 0)) rfl rfl rfl zeroA (b9) rfl) ?_
            rintro _ hz tz
            refine run ?_
            exact retCT (vs := ARv AZ (.slice none 0 0)) rfl rfl rfl (fun i hi => by rw [add_lit, Blk.cell (tz.at_ (by have := (x19).size; omega))]; simp) (by constructor) ⟨ARes.bad _ 12 hz, Mods.ext (x1.trans x19) tz.mods (fun k hk he => by omega)⟩
        · have hAll : ns.all rightB = true := by
            rw [List.all_eq_true]
            intro x hx
            obtain ⟨j, hj, rfl⟩ := List.mem_iff_getElem.1 hx
            exact hall j hj (by omega)
          rw [if_neg (by rw [hAll]; decide)]
          refine run ?_
          refine L.op (V.load (v := .slice (some (a.add (2 * 1))) ns.length (c - 2)) rfl (by rw [Blk.cell e8]; rfl)) ?_
          by_cases h8' : 8 < ns.length
          · rw [if_pos h8']
            refine run ?_
            refine L.op (V.buildS (zl := ARv AZ (.slice none 0 0)) (cells := ARv AZ (.slice none 0 0)) (vals := []) rfl rfl rfl) ?_
            refine L.do0 (D.sta (b := h.size) (cs := ARv AZ (.slice none 0 0)) (vs := ARv AZ (.slice none 0 0)) rfl rfl rfl zeroA (b8) rfl) ?_
            rintro _ hz tz
            refine run ?_
            exact retCT (vs := ARv AZ (.slice none 0 0)) rfl rfl rfl (fun i hi => by rw [add_lit, Blk.cell (tz.at_ (by have := (x18).size; omega))]; simp) (by constructor) ⟨ARes.bad _ 5 hz, Mods.ext (x1.trans x18) tz.mods (fun k hk he => by omega)⟩
          · rw [if_neg h8']
            refine run ?_
            refine L.do0 (D.st (b := h3.size) (o := 1) (v := .int .i64 (numU p0)) rfl rfl rfl e8 (by show 1 < 5; decide)) ?_
            rintro _ h9 t9
            have s9 := t9.size
            have e9 : Blk h9 h3.size (ARv ⟨createS, numU p0, 0, 0, ns⟩ (.slice (some (a.add (2 * 1))) ns.length (c - 2))) 32 := t9.at_ (by omega)
            refine run ?_
            refine L.do0 (D.st (b := h3.size) (o := 2) (v := .int .i64 (numU p1)) rfl rfl rfl e9 (by show 2 < 5; decide)) ?_
            rintro _ h10 t10
            have s10 := t10.size
            have e10 : Blk h10 h3.size (ARv ⟨createS, numU p0, numU p1, 0, ns⟩ (.slice (some (a.add (2 * 1))) ns.length (c - 2))) 32 := t10.at_ (by omega)
            have m8 : Mods (fun k => k = h3.size) h8 h10 := t9.mods.trans t10.mods
            have b10 : Blk h10 h.size (ARv AZ (.slice none 0 0)) 32 := m8.at b8 (by omega)
            refine run ?_
            refine L.op (V.loada (vs := ARv ⟨createS, numU p0, numU p1, 0, ns⟩ (.slice (some (a.add (2 * 1))) ns.length (c - 2))) rfl rfl (fun j hj => by rw [add_lit, Blk.cell e10]; simp)) ?_
            refine L.do0 (D.sta (b := h.size) (cs := ARv AZ (.slice none 0 0)) (vs := ARv ⟨createS, numU p0, numU p1, 0, ns⟩ (.slice (some (a.add (2 * 1))) ns.length (c - 2))) rfl rfl rfl (by intro v hv; simp only [ARv, List.mem_cons, List.not_mem_nil, or_false] at hv; rcases hv with rfl | rfl | rfl | rfl | rfl <;> rfl) b10 rfl) ?_
            rintro _ h11 t11
            have xa : Ext h h8 := x1.trans x18
            have mAll : Mods (fun k => k = h.size ∨ k = h3.size) h8 h11 := (m8.mono (fun k _ hk => .inr hk)).trans (t11.mods.mono (fun k _ hk => .inl hk))
            have xe : Ext h h11 := Mods.ext xa mAll (fun k hk he => by rcases he with he | he <;> omega)
            have hrow : RowP p h11 (some (a.add (2 * 1))) (ns.map S) := by
              have := (hA.ext xe).drop 2
              rw [← List.map_drop, ← hns] at this
              exact this
            refine run ?_
            exact retCT (vs := ARv ⟨createS, numU p0, numU p1, 0, ns⟩ (.slice (some (a.add (2 * 1))) ns.length (c - 2))) rfl rfl rfl (fun i hi => by rw [add_lit, Blk.cell (t11.at_ (by omega))]; simp) (by constructor) ⟨⟨_, rfl, ⟨_, _, rfl, by show ns.length ≤ _; omega, hrow⟩⟩, xe⟩
end Go.Proofs.YtoggdigclbcndaaDoor.E
