/-
  Package args, walked: Parse.
-/
import Derived.Test.YtoggdigclbcndaaDoorArgs2
set_option linter.unusedVariables false
set_option linter.unusedSimpArgs false
namespace Go.Proofs.YtoggdigclbcndaaDoor.E
open Go Go.Proofs Go.RowKit
set_option maxRecDepth 100000
def single (w : List UInt8) : Prop := w = [118, 101, 114, 105, 102, 121] ∨ w = [114, 101, 112, 97, 105, 114] ∨ w = [108, 105, 115, 116]
instance (w : List UInt8) : Decidable (single w) := by unfold single; infer_instance
def parsP (l : List UInt8) : AR × Int :=
  if 1000 < l.length then (AZ, 3)
  else if ([] : List UInt8) ∈ parts 32 l then (AZ, 2)
  else if (parts 32 l).headD [] = createS then crP ((parts 32 l).drop 1)
  else if (parts 32 l).headD [] = extendS then exP ((parts 32 l).drop 1)
  else if single ((parts 32 l).headD []) ∧ (parts 32 l).length = 1 then (⟨(parts 32 l).headD [], 0, 0, 0, []⟩, 0)
  else (AZ, 2)
theorem contains_c (b c : Nat) (t : TypeId) (ws : List (List UInt8)) (x : List UInt8) (h : Heap) (hb : Blk h b (ws.map S) t) (hl : ws.length ≤ 9223372036854775807) :
    RetQ Tryd.prog 28 [.slice (some ⟨b, 0, none⟩) ws.length c, S x] h (.bool (decide (x ∈ ws))) :=
  .of_same fun w hw => by
    have hz : (ws.map fun l => (⟨l.toArray⟩ : ByteArray)).length = ws.length := by simp
    have hc := Tryd.slices_Contains_string b 0 ws.length c (ws.map fun l => ⟨l.toArray⟩) ⟨x.toArray⟩ w (by rw [hz]; exact Nat.le_refl _) hl (fun j hj => by
      rw [hz] at hj
      rw [cellH_eq', hw, Blk.cell hb]
      simp [hj, List.getD_eq_getElem?_getD])
    have e : Lib.containsS ((ws.map fun l => (⟨l.toArray⟩ : ByteArray)).take ws.length) ⟨x.toArray⟩ = decide (x ∈ ws) := by
      rw [show ws.length = (ws.map fun l => (⟨l.toArray⟩ : ByteArray)).length by simp, List.take_length]
      have h1 := Lib.containsS_iff (ws.map fun l => (⟨l.toArray⟩ : ByteArray)) ⟨x.toArray⟩
      have h2 : (⟨x.toArray⟩ : ByteArray) ∈ (ws.map fun l => (⟨l.toArray⟩ : ByteArray)) ↔ x ∈ ws := by
        constructor
        · intro hm
          obtain ⟨y, hy, he⟩ := List.mem_map.1 hm
          rw [← S_inj.1 he]; exact hy
        · intro hm; exact List.mem_map.2 ⟨x, hm, rfl⟩
      by_cases hx : x ∈ ws
      · rw [decide_eq_true hx]; exact h1.2 (h2.2 hx)
      · rw [decide_eq_false hx]
        cases hcs : Lib.containsS (ws.map fun l => (⟨l.toArray⟩ : ByteArray)) ⟨x.toArray⟩ with
        | false => rfl
        | true => exact absurd (h2.1 (h1.1 hcs)) hx
    rw [← e]; exact hc
theorem crP_names (ws : List (List UInt8)) : (crP ws).2 ≠ 0 → (crP ws).1 = AZ := by
  unfold crP; intro h
  split
  · rfl
  · split
    · rfl
    · split
      · rfl
      · split
        · rfl
        · rename_i h1 h2 h3 h4; rw [if_neg h1, if_neg h2, if_neg h3, if_neg h4] at h; exact absurd rfl h
set_option maxHeartbeats 2000000 in
theorem parse_c (l : List UInt8) (h : Heap) (hV : Vars h) (hl : l.length ≤ 1000000) : Ret Tryd.prog 18 [S l] h (fun v h' => ARes (fun b => h.size ≤ b) (parsP l) v h' ∧ Ext h h') := by
  refine Ret.enter Tryd.func18 rfl Tryd.ntmps18 (by show 1 ≤ 45; decide) fun w0 => ?_
  refine run ?_
  refine L.do1 (D.al (cs := ARv AZ (.slice none 0 0)) rfl) ?_
  rintro _ h0 ⟨rfl, n0⟩
  have x0 := n0.ext
  have s0 := n0.size
  have b0 : Blk h0 h.size (ARv AZ (.slice none 0 0)) 32 := n0.at_
  refine run ?_
  refine L.c1 rfl (split_c 32 l h0 (hV.ext x0) (by omega)) ?_
  rintro _ h1 ⟨rfl, n1⟩
  have x01 : Ext h0 h1 := n1.ext
  have x1 := x0.trans x01
  have s1 := n1.size
  have hV1 := hV.ext x1
  have b1 : Blk h1 h.size (ARv AZ (.slice none 0 0)) 32 := x01.at b0
  have w1 : Blk h1 h0.size ((parts 32 l).map S) 9 := n1.at_
  have hwl0 := parts_length 32 l
  have hcl := List.count_le_length (a := (32 : UInt8)) (l := l)
  have heach : ∀ w ∈ parts 32 l, w.length ≤ 1000000 := fun w hm => by have := parts_each 32 l w hm; omega
  unfold parsP
  obtain ⟨ws, hws⟩ : ∃ ws, ws = parts 32 l := ⟨_, rfl⟩
  have hne : ws ≠ [] := by rw [hws]; exact parts_ne 32 l
  rw [← hws] at w1 hwl0 heach ⊢
  by_cases hlong : 1000 < l.length
  · rw [if_pos hlong]
    refine run ?_
    refine L.op (V.buildS (zl := ARv AZ (.slice none 0 0)) (cells := ARv AZ (.slice none 0 0)) (vals := []) rfl rfl rfl) ?_
    refine L.do0 (D.sta (b := h.size) (cs := ARv AZ (.slice none 0 0)) (vs := ARv AZ (.slice none 0 0)) rfl rfl rfl zeroA (b1) rfl) ?_
    rintro _ hz tz
    refine run ?_
    exact retCT (vs := ARv AZ (.slice none 0 0)) rfl rfl rfl (fun i hi => by rw [add_lit, Blk.cell (tz.at_ (by omega))]; simp) (by constructor) ⟨ARes.bad _ 3 hz, Mods.ext x1 tz.mods (fun k hk he => by omega)⟩
  rw [if_neg hlong]
  refine run ?_
  refine L.cq rfl (show RetQ _ _ [.slice (some ⟨h0.size, 0, none⟩) ws.length ws.length, S []] h1 _ from contains_c h0.size ws.length 9 ws [] h1 w1 (by omega)) ?_
  by_cases hemp : ([] : List UInt8) ∈ ws
  · rw [if_pos hemp, decide_eq_true hemp]
    refine run ?_
    refine L.op (V.buildS (zl := ARv AZ (.slice none 0 0)) (cells := ARv AZ (.slice none 0 0)) (vals := []) rfl rfl rfl) ?_
    refine L.do0 (D.sta (b := h.size) (cs := ARv AZ (.slice none 0 0)) (vs := ARv AZ (.slice none 0 0)) rfl rfl rfl zeroA (b1) rfl) ?_
    rintro _ hz tz
    refine run ?_
    exact retCT (vs := ARv AZ (.slice none 0 0)) rfl rfl rfl (fun i hi => by rw [add_lit, Blk.cell (tz.at_ (by omega))]; simp) (by constructor) ⟨ARes.bad _ 2 hz, Mods.ext x1 tz.mods (fun k hk he => by omega)⟩
  rw [if_neg hemp, decide_eq_false hemp]
  obtain ⟨p0, rest, hp⟩ : ∃ p0 rest, ws = p0 :: rest := by
    cases ws with
    | nil => exact absurd rfl hne
    | cons p q => exact ⟨p, q, rfl⟩
  have hlen : ws.length = rest.length + 1 := by rw [hp]; rfl
  have hhead : ws.headD [] = p0 := by rw [hp]; rfl
  have hdrop : ws.drop 1 = rest := by rw [hp]; rfl
  have c0 : cellH h1 ((⟨h0.size, 0, none⟩ : Addr).add ((0 : Int).toNat * 1)) = some (S p0) := by
    rw [add_lit, Blk.cell w1, hp]; rfl
  rw [hhead, hdrop]
  obtain ⟨A2, hA2⟩ : ∃ A2, A2 = (if ws.length = 1 then some (⟨h0.size, 0, none⟩ : Addr) else (some (⟨h0.size, 0, none⟩ : Addr)).map (·.add (1 * 1))) := ⟨_, rfl⟩
  have hR : RowP (fun b => b = h0.size) h1 A2 (rest.map S) := by
    rw [hA2]
    split
    · have : rest = [] := List.eq_nil_of_length_eq_zero (by omega)
      rw [this]; exact .inl rfl
    · refine .inr ⟨h0.size, 1, _, _, _, by rw [Option.map_some, add_lit], rfl, w1, fun i hi => ?_⟩
      rw [hp]; simp [Nat.add_comm 1 i]
  have hrl : ws.length - 1 = rest.length := by omega
  have hrw : ∀ w ∈ rest, w.length ≤ 1000000 := fun w hm => heach w (by rw [hp]; exact List.mem_cons_of_mem _ hm)
  refine run ?_
  refine L.op (V.idx rfl rfl (by omega) (by omega)) ?_
  refine L.op (V.load (v := S p0) rfl c0) ?_
  by_cases hc : p0 = [99, 114, 101, 97, 116, 101]
  · rw [if_pos (show p0 = createS from hc)]
    refine run ?_
    refine L.op (V.cut (i := 1) (j := ws.length) rfl (.inr ⟨.i64, rfl⟩) (.inl ⟨rfl, rfl⟩) (by omega) (Nat.le_refl _)) ?_
    rw [← hA2, hrl]
    refine L.c1 rfl (parseCreate_c A2 rest.length rest h1 hV1 hR (Nat.le_refl _) (by omega) hrw) ?_
    rintro _ h2 ⟨⟨nv, rfl, hnv⟩, x2⟩
    have b2 : Blk h2 h.size (ARv AZ (.slice none 0 0)) 32 := x2.at b1
    have q2 := x2.size
    refine run ?_
    refine L.do0 (D.sta (b := h.size) (cs := ARv AZ (.slice none 0 0)) (vs := ARv (crP rest).1 nv) rfl rfl rfl (oneA _ hnv) b2 rfl) ?_
    rintro _ h3 t3
    have xe : Ext h h3 := Mods.ext (x1.trans x2) t3.mods (fun k hk he => by omega)
    refine run ?_
    exact retCT (vs := ARv (crP rest).1 nv) rfl rfl rfl (fun i hi => by rw [add_lit, Blk.cell (t3.at_ (by omega))]; simp) (by constructor) ⟨⟨nv, rfl, (hnv.mods t3.mods (fun b _ hb hk => by omega)).mono (fun b _ hb => by omega)⟩, xe⟩
  by_cases hx : p0 = [101, 120, 116, 101, 110, 100]
  · rw [if_neg (show ¬ p0 = createS from hc), if_pos (show p0 = extendS from hx)]
    refine run ?_
    refine L.op (V.cut (i := 1) (j := ws.length) rfl (.inr ⟨.i64, rfl⟩) (.inl ⟨rfl, rfl⟩) (by omega) (Nat.le_refl _)) ?_
    rw [← hA2, hrl]
    refine L.c1 rfl (parseExtend_c A2 rest.length rest h1 hV1 hR hrw) ?_
    rintro _ h2 ⟨⟨nv, rfl, hnv⟩, x2⟩
    have b2 : Blk h2 h.size (ARv AZ (.slice none 0 0)) 32 := x2.at b1
    have q2 := x2.size
    refine run ?_
    refine L.do0 (D.sta (b := h.size) (cs := ARv AZ (.slice none 0 0)) (vs := ARv (exP rest).1 nv) rfl rfl rfl (oneA _ hnv) b2 rfl) ?_
    rintro _ h3 t3
    have xe : Ext h h3 := Mods.ext (x1.trans x2) t3.mods (fun k hk he => by omega)
    refine run ?_
    exact retCT (vs := ARv (exP rest).1 nv) rfl rfl rfl (fun i hi => by rw [add_lit, Blk.cell (t3.at_ (by omega))]; simp) (by constructor) ⟨⟨nv, rfl, (hnv.mods t3.mods (fun b _ hb hk => by omega)).mono (fun b _ hb => by omega)⟩, xe⟩
  rw [if_neg (show ¬ p0 = createS from hc), if_neg (show ¬ p0 = extendS from hx)]
  by_cases hv : p0 = [118, 101, 114, 105, 102, 121]
  · by_cases h1l : ws.length = 1
    · rw [if_pos ⟨.inl hv, h1l⟩]
      refine run ?_
      refine L.op (V.idx rfl rfl (by omega) (by omega)) ?_
      refine L.op (V.load (v := S p0) rfl c0) ?_
      refine L.op (V.buildS (zl := ARv AZ (.slice none 0 0)) (cells := ARv ⟨p0, 0, 0, 0, []⟩ (.slice none 0 0)) (vals := [(0, S p0)]) rfl rfl rfl) ?_
      refine L.do0 (D.sta (b := h.size) (cs := ARv AZ (.slice none 0 0)) (vs := ARv ⟨p0, 0, 0, 0, []⟩ (.slice none 0 0)) rfl rfl rfl (oneA ⟨p0, 0, 0, 0, []⟩ (NamesAt.nil (fun _ => True) h1)) b1 rfl) ?_
      rintro _ h3 t3
      have xe : Ext h h3 := Mods.ext x1 t3.mods (fun k hk he => by omega)
      refine run ?_
      exact retCT (vs := ARv ⟨p0, 0, 0, 0, []⟩ (.slice none 0 0)) rfl rfl rfl (fun i hi => by rw [add_lit, Blk.cell (t3.at_ (by omega))]; simp) (by constructor) ⟨⟨_, rfl, NamesAt.nil _ h3⟩, xe⟩
    · rw [if_neg (fun hx => h1l hx.2)]
      refine run ?_
      refine L.op (V.buildS (zl := ARv AZ (.slice none 0 0)) (cells := ARv AZ (.slice none 0 0)) (vals := []) rfl rfl rfl) ?_
      refine L.do0 (D.sta (b := h.size) (cs := ARv AZ (.slice none 0 0)) (vs := ARv AZ (.slice none 0 0)) rfl rfl rfl zeroA (b1) rfl) ?_
      rintro _ hz tz
      refine run ?_
      exact retCT (vs := ARv AZ (.slice none 0 0)) rfl rfl rfl (fun i hi => by rw [add_lit, Blk.cell (tz.at_ (by omega))]; simp) (by constructor) ⟨ARes.bad _ 2 hz, Mods.ext x1 tz.mods (fun k hk he => by omega)⟩
  by_cases hr : p0 = [114, 101, 112, 97, 105, 114]
  · by_cases h1l : ws.length = 1
    · rw [if_pos ⟨.inr (.inl hr), h1l⟩]
      refine run ?_
      refine L.op (V.idx rfl rfl (by omega) (by omega)) ?_
      refine L.op (V.load (v := S p0) rfl c0) ?_
      refine L.op (V.buildS (zl := ARv AZ (.slice none 0 0)) (cells := ARv ⟨p0, 0, 0, 0, []⟩ (.slice none 0 0)) (vals := [(0, S p0)]) rfl rfl rfl) ?_
      refine L.do0 (D.sta (b := h.size) (cs := ARv AZ (.slice none 0 0)) (vs := ARv ⟨p0, 0, 0, 0, []⟩ (.slice none 0 0)) rfl rfl rfl (oneA ⟨p0, 0, 0, 0, []⟩ (NamesAt.nil (fun _ => True) h1)) b1 rfl) ?_
      rintro _ h3 t3
      have xe : Ext h h3 := Mods.ext x1 t3.mods (fun k hk he => by omega)
      refine run ?_
      exact retCT (vs := ARv ⟨p0, 0, 0, 0, []⟩ (.slice none 0 0)) rfl rfl rfl (fun i hi => by rw [add_lit, Blk.cell (t3.at_ (by omega))]; simp) (by constructor) ⟨⟨_, rfl, NamesAt.nil _ h3⟩, xe⟩
    · rw [if_neg (fun hx => h1l hx.2)]
      refine run ?_
      refine L.op (V.buildS (zl := ARv AZ (.slice none 0 0)) (cells := ARv AZ (.slice none 0 0)) (vals := []) rfl rfl rfl) ?_
      refine L.do0 (D.sta (b := h.size) (cs := ARv AZ (.slice none 0 0)) (vs := ARv AZ (.slice none 0 0)) rfl rfl rfl zeroA (b1) rfl) ?_
      rintro _ hz tz
      refine run ?_
      exact retCT (vs := ARv AZ (.slice none 0 0)) rfl rfl rfl (fun i hi => by rw [add_lit, Blk.cell (tz.at_ (by omega))]; simp) (by constructor) ⟨ARes.bad _ 2 hz, Mods.ext x1 tz.mods (fun k hk he => by omega)⟩
  by_cases hli : p0 = [108, 105, 115, 116]
  · by_cases h1l : ws.length = 1
    · rw [if_pos ⟨.inr (.inr hli), h1l⟩]
      refine run ?_
      refine L.op (V.idx rfl rfl (by omega) (by omega)) ?_
      refine L.op (V.load (v := S p0) rfl c0) ?_
      refine L.op (V.buildS (zl := ARv AZ (.slice none 0 0)) (cells := ARv ⟨p0, 0, 0, 0, []⟩ (.slice none 0 0)) (vals := [(0, S p0)]) rfl rfl rfl) ?_
      refine L.do0 (D.sta (b := h.size) (cs := ARv AZ (.slice none 0 0)) (vs := ARv ⟨p0, 0, 0, 0, []⟩ (.slice none 0 0)) rfl rfl rfl (oneA ⟨p0, 0, 0, 0, []⟩ (NamesAt.nil (fun _ => True) h1)) b1 rfl) ?_
      rintro _ h3 t3
      have xe : Ext h h3 := Mods.ext x1 t3.mods (fun k hk he => by omega)
      refine run ?_
      exact retCT (vs := ARv ⟨p0, 0, 0, 0, []⟩ (.slice none 0 0)) rfl rfl rfl (fun i hi => by rw [add_lit, Blk.cell (t3.at_ (by omega))]; simp) (by constructor) ⟨⟨_, rfl, NamesAt.nil _ h3⟩, xe⟩
    · rw [if_neg (fun hx => h1l hx.2)]
      refine run ?_
      refine L.op (V.buildS (zl := ARv AZ (.slice none 0 0)) (cells := ARv AZ (.slice none 0 0)) (vals := []) rfl rfl rfl) ?_
      refine L.do0 (D.sta (b := h.size) (cs := ARv AZ (.slice none 0 0)) (vs := ARv AZ (.slice none 0 0)) rfl rfl rfl zeroA (b1) rfl) ?_
      rintro _ hz tz
      refine run ?_
      exact retCT (vs := ARv AZ (.slice none 0 0)) rfl rfl rfl (fun i hi => by rw [add_lit, Blk.cell (tz.at_ (by omega))]; simp) (by constructor) ⟨ARes.bad _ 2 hz, Mods.ext x1 tz.mods (fun k hk he => by omega)⟩
  · rw [if_neg (fun hx => by rcases hx.1 with hx | hx | hx <;> first | exact hv hx | exact hr hx | exact hli hx)]
    refine run ?_
    refine L.op (V.buildS (zl := ARv AZ (.slice none 0 0)) (cells := ARv AZ (.slice none 0 0)) (vals := []) rfl rfl rfl) ?_
    refine L.do0 (D.sta (b := h.size) (cs := ARv AZ (.slice none 0 0)) (vs := ARv AZ (.slice none 0 0)) rfl rfl rfl zeroA (b1) rfl) ?_
    rintro _ hz tz
    refine run ?_
    exact retCT (vs := ARv AZ (.slice none 0 0)) rfl rfl rfl (fun i hi => by rw [add_lit, Blk.cell (tz.at_ (by omega))]; simp) (by constructor) ⟨ARes.bad _ 2 hz, Mods.ext x1 tz.mods (fun k hk he => by omega)⟩
end Go.Proofs.YtoggdigclbcndaaDoor.E
