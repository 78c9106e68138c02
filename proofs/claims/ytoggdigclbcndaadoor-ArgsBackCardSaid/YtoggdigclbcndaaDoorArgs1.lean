/-
  Package args, walked: parseCreate, parseExtend.
-/
import Derived.Test.YtoggdigclbcndaaDoorNum
set_option linter.unusedVariables false
set_option linter.unusedSimpArgs false
namespace Go.Proofs.YtoggdigclbcndaaDoor.E
open Go Go.Proofs Go.RowKit
set_option maxRecDepth 100000
section
variable {P : Program} {w0 : World} {n : Nat} {σ : Slots} {h : Heap}
theorem retCT {fn : Func} {t a u sz by_ : Nat} {S : Value → Heap → Prop} {ad : Addr} {vs : List Value} {v : Value} [hg : AggT P a] [hi : InfoT P a sz by_] (hr : fn.results = #[.cell t a, .tmp u]) (ht : ev n σ (.tmp t) = .pointer (some ad)) (hl : vs.length = sz) (hc : ∀ i, i < vs.length → cellH h (ad.add i) = vs[i]?)
    (hv : Is (ev n σ (.tmp u)) v) (hS : S (.tuple #[.agg vs.toArray, v]) h) : leave P n fn S .ret σ h := by
  unfold leave
  refine ⟨_, fun w hw => ?_, hS⟩
  subst hw
  have ht' : (fr n σ).tmps[t]?.getD undef = .pointer (some ad) := by have := tmps_getD (n := n) (σ := σ) t; rw [ht] at this; rw [← this]; simp
  have hu' : (fr n σ).tmps[u]?.getD undef = v := by have := tmps_getD (n := n) (σ := σ) u; rw [hv.eq] at this; rw [← this]; simp
  have hload := run_loadCellsFrom (P := P) w ad vs 0 #[] (fun j hj => by rw [Nat.zero_add]; exact hc j hj)
  rw [hl] at hload
  simp only [results, hr]
  simp [asAddr, ht', hu', loadVar, hg.out, run_sizeOf, loadCells, hload]
end
theorem strs_at {p : Nat → Prop} {h : Heap} {A : Option Addr} {ws : List (List UInt8)} (r : RowP p h A (ws.map S)) {i : Nat} (hi : i < ws.length) : ∃ a, A = some a ∧ cellH h (a.add (i * 1)) = some (S ws[i]) := by
  obtain ⟨a, ha, hc⟩ := r.row.cell (i := i) (by simpa using hi)
  exact ⟨a, ha, by rw [Nat.mul_one, hc]; simp⟩
/-- what is said to the tool -/
structure AR where
  verb : List UInt8
  sl : Int
  cn : Int
  fr : Int
  names : List (List UInt8)
def AZ : AR := ⟨[], 0, 0, 0, []⟩
def ARv (a : AR) (nv : Value) : List Value := [S a.verb, .int .i64 a.sl, .int .i64 a.cn, .int .u32 a.fr, nv]
def NamesAt (p : Nat → Prop) (h : Heap) (nv : Value) (ns : List (List UInt8)) : Prop := ∃ A c, nv = .slice A ns.length c ∧ ns.length ≤ c ∧ RowP p h A (ns.map S)
theorem NamesAt.mods {p S' : Nat → Prop} {h h' : Heap} {nv : Value} {ns : List (List UInt8)} (a : NamesAt p h nv ns) (x : Mods S' h h') (hS : ∀ b, b < h.size → p b → ¬ S' b) : NamesAt p h' nv ns := let ⟨A, c, h1, h2, h3⟩ := a; ⟨A, c, h1, h2, h3.mods x hS⟩
theorem NamesAt.ext {p : Nat → Prop} {h h' : Heap} {nv : Value} {ns : List (List UInt8)} (a : NamesAt p h nv ns) (x : Ext h h') : NamesAt p h' nv ns := a.mods x (fun _ _ _ => id)
theorem NamesAt.mono {p q : Nat → Prop} {h : Heap} {nv : Value} {ns : List (List UInt8)} (a : NamesAt p h nv ns) (hpq : ∀ b, b < h.size → p b → q b) : NamesAt q h nv ns := let ⟨A, c, h1, h2, h3⟩ := a; ⟨A, c, h1, h2, h3.mono hpq⟩
theorem NamesAt.nil (p : Nat → Prop) (h : Heap) : NamesAt p h (.slice none 0 0) [] := ⟨none, 0, rfl, Nat.le_refl _, .inl rfl⟩
/-- a result: what is said, and an error's number -/
def ARes (p : Nat → Prop) (r : AR × Int) (v : Value) (h : Heap) : Prop := ∃ nv, v = .tuple #[.agg (ARv r.1 nv).toArray, .int .i64 r.2] ∧ NamesAt p h nv r.1.names
theorem ARes.bad (p : Nat → Prop) (e : Int) (h : Heap) : ARes p (AZ, e) (.tuple #[.agg (ARv AZ (.slice none 0 0)).toArray, .int .i64 e]) h := ⟨_, rfl, NamesAt.nil p h⟩
def createS : List UInt8 := [99, 114, 101, 97, 116, 101]
def extendS : List UInt8 := [101, 120, 116, 101, 110, 100]
def exP (ws : List (List UInt8)) : AR × Int :=
  if ws.length ≠ 2 ∨ numU (ws.getD 0 []) < 0 ∨ numU (ws.getD 1 []) < 0 then (AZ, 2)
  else if ¬ (1 ≤ numU (ws.getD 1 []) ∧ numU (ws.getD 1 []) ≤ 64) then (AZ, 1)
  else (⟨extendS, 0, numU (ws.getD 1 []), numU (ws.getD 0 []), []⟩, 0)
theorem zeroA : ∀ v ∈ ARv AZ (.slice none 0 0), v.oneCell' = true := by
  intro v hv
  simp only [ARv, List.mem_cons, List.not_mem_nil, or_false] at hv
  rcases hv with rfl | rfl | rfl | rfl | rfl <;> rfl
theorem oneA (a : AR) {p : Nat → Prop} {h : Heap} {nv : Value} (hn : NamesAt p h nv a.names) : ∀ v ∈ ARv a nv, v.oneCell' = true := by
  obtain ⟨A, c, rfl, _⟩ := hn
  intro v hv
  simp only [ARv, List.mem_cons, List.not_mem_nil, or_false] at hv
  rcases hv with rfl | rfl | rfl | rfl | rfl <;> rfl
theorem mixed : Tryd.prog.follows .mixedOrders = true := by kernel_rfl
theorem parseExtend_c {p : Nat → Prop} (A : Option Addr) (c : Nat) (ws : List (List UInt8)) (h : Heap) (hV : Vars h) (hA : RowP p h A (ws.map S)) (hw : ∀ w ∈ ws, w.length ≤ 1000000) :
    Ret Tryd.prog 30 [.slice A ws.length c] h (fun v h' => ARes p (exP ws) v h' ∧ Ext h h') := by
  refine Ret.enter Tryd.func30 rfl Tryd.ntmps30 (by show 1 ≤ 40; decide) fun w0 => ?_
  refine run ?_
  refine L.do1 (D.al (cs := ARv AZ (.slice none 0 0)) rfl) ?_
  rintro _ h1 ⟨rfl, n1⟩
  have x1 := n1.ext
  have s1 := n1.size
  have b1 : Blk h1 h.size (ARv AZ (.slice none 0 0)) 32 := n1.at_
  have hV1 := hV.ext x1
  have hA1 := hA.ext x1
  unfold exP
  by_cases hl : ws.length ≠ 2
  · rw [if_pos (.inl hl)]
    refine run ?_
    refine L.op (V.buildS (zl := ARv AZ (.slice none 0 0)) (cells := ARv AZ (.slice none 0 0)) (vals := []) rfl rfl rfl) ?_
    refine L.do0 (D.sta (b := h.size) (cs := ARv AZ (.slice none 0 0)) (vs := ARv AZ (.slice none 0 0)) rfl rfl rfl zeroA (b1) rfl) ?_
    rintro _ hz tz
    refine run ?_
    exact retCT (vs := ARv AZ (.slice none 0 0)) rfl rfl rfl (fun i hi => by rw [add_lit, Blk.cell (tz.at_ (by omega))]; simp) (by constructor) ⟨ARes.bad _ 2 hz, Mods.ext x1 tz.mods (fun k hk he => by omega)⟩
  · have hl2 : ws.length = 2 := by omega
    have g0 : ws.getD 0 [] = ws[0] := by simp [List.getD_eq_getElem?_getD, List.getElem?_eq_getElem (by omega : 0 < ws.length)]
    have g1 : ws.getD 1 [] = ws[1] := by simp [List.getD_eq_getElem?_getD, List.getElem?_eq_getElem (by omega : 1 < ws.length)]
    have m0 := hw _ (List.getElem_mem (by omega : 0 < ws.length))
    have m1 := hw _ (List.getElem_mem (by omega : 1 < ws.length))
    rw [g0, g1]
    obtain ⟨a, rfl, c0⟩ := strs_at hA1 (i := 0) (by omega)
    obtain ⟨_, ha, c1⟩ := strs_at hA1 (i := 1) (by omega)
    cases ha
    obtain ⟨p0, hp0⟩ : ∃ p0, p0 = ws[0] := ⟨_, rfl⟩
    obtain ⟨p1, hp1⟩ : ∃ p1, p1 = ws[1] := ⟨_, rfl⟩
    rw [← hp0] at m0 c0 ⊢
    rw [← hp1] at m1 c1 ⊢
    have d0 := numU_le p0
    have d1 := numU_le p1
    refine run ?_
    refine L.gyes rfl rfl (V.idx rfl rfl (by omega) (by omega)) ?_
    refine L.gyes rfl rfl (V.load (v := S p0) rfl c0) ?_
    refine L.c1g rfl rfl rfl (number32_c p0 h1 hV1 (by omega)) ?_
    rintro _ h2 ⟨rfl, x2⟩
    have b2 : Blk h2 h.size (ARv AZ (.slice none 0 0)) 32 := x2.at b1
    by_cases n0 : numU p0 < 0
    · rw [if_pos (.inr (.inl n0))]
      refine run ?_
      refine L.op (V.buildS (zl := ARv AZ (.slice none 0 0)) (cells := ARv AZ (.slice none 0 0)) (vals := []) rfl rfl rfl) ?_
      refine L.do0 (D.sta (b := h.size) (cs := ARv AZ (.slice none 0 0)) (vs := ARv AZ (.slice none 0 0)) rfl rfl rfl zeroA (b2) rfl) ?_
      rintro _ hz tz
      refine run ?_
      exact retCT (vs := ARv AZ (.slice none 0 0)) rfl rfl rfl (fun i hi => by rw [add_lit, Blk.cell (tz.at_ (by have := (x2).size; omega))]; simp) (by constructor) ⟨ARes.bad _ 2 hz, Mods.ext (x1.trans x2) tz.mods (fun k hk he => by omega)⟩
    · refine run ?_
      refine L.gyes rfl rfl (V.idx rfl rfl (by omega) (by omega)) ?_
      refine L.gyes rfl rfl (V.load (v := S p1) rfl (x2.cell c1)) ?_
      refine L.c1g rfl rfl rfl (number32_c p1 h2 (hV1.ext x2) (by omega)) ?_
      rintro _ h3 ⟨rfl, x3⟩
      have x23 : Ext h1 h3 := x2.trans x3
      have b3 : Blk h3 h.size (ARv AZ (.slice none 0 0)) 32 := x23.at b1
      by_cases n1' : numU p1 < 0
      · rw [if_pos (.inr (.inr n1'))]
        refine run ?_
        refine L.op (V.buildS (zl := ARv AZ (.slice none 0 0)) (cells := ARv AZ (.slice none 0 0)) (vals := []) rfl rfl rfl) ?_
        refine L.do0 (D.sta (b := h.size) (cs := ARv AZ (.slice none 0 0)) (vs := ARv AZ (.slice none 0 0)) rfl rfl rfl zeroA (b3) rfl) ?_
        rintro _ hz tz
        refine run ?_
        exact retCT (vs := ARv AZ (.slice none 0 0)) rfl rfl rfl (fun i hi => by rw [add_lit, Blk.cell (tz.at_ (by have := (x23).size; omega))]; simp) (by constructor) ⟨ARes.bad _ 2 hz, Mods.ext (x1.trans x23) tz.mods (fun k hk he => by omega)⟩
      · rw [if_neg (by omega)]
        refine run ?_
        refine C.mix (fun hh => Ext h3 hh) (fun i => i == 3 || i == 7) mixed (by kernel_rfl) (Mods.refl _ _) ?_
        refine run ?_
        refine M.op (fun hh hG => V.idx rfl rfl (by omega) (by omega)) ?_
        refine M.op (fun hh hG => V.load (v := S p0) rfl (hG.cell (x23.cell c0))) ?_
        refine M.c1 rfl rfl (number32_c p0 h3 (hV1.ext x23) (by omega)) ?_
        rintro _ h4 ⟨rfl, x4⟩
        refine ⟨x4, ?_⟩
        refine run ?_
        refine M.op (fun hh hG => V.idx rfl rfl (by omega) (by omega)) ?_
        refine M.op (fun hh hG => V.load (v := S p1) rfl (hG.cell (x23.cell c1))) ?_
        refine M.c1 rfl rfl (number32_c p1 h4 (hV1.ext (x23.trans x4)) (by omega)) ?_
        rintro _ h5 ⟨rfl, x5⟩
        refine ⟨x4.trans x5, ?_⟩
        have x25 : Ext h1 h5 := x23.trans (x4.trans x5)
        have b5 : Blk h5 h.size (ARv AZ (.slice none 0 0)) 32 := x25.at b1
        refine run ?_
        refine L.cq rfl (within_c (numU p1) 1 64 h5) ?_
        by_cases hin : 1 ≤ numU p1 ∧ numU p1 ≤ 64
        · rw [if_neg (by omega), decide_eq_true hin]
          refine run ?_
          refine L.op (V.buildS (zl := ARv AZ (.slice none 0 0)) (cells := ARv ⟨extendS, 0, numU p1, numU p0, []⟩ (.slice none 0 0)) (vals := [(0, S extendS), (3, .int .u32 (numU p0)), (2, .int .i64 (numU p1))]) rfl rfl rfl) ?_
          refine L.do0 (D.sta (b := h.size) (cs := ARv AZ (.slice none 0 0)) (vs := ARv ⟨extendS, 0, numU p1, numU p0, []⟩ (.slice none 0 0)) rfl rfl rfl (oneA ⟨extendS, 0, numU p1, numU p0, []⟩ (NamesAt.nil (fun _ => True) h5)) b5 rfl) ?_
          rintro _ h6 t6
          refine run ?_
          exact retCT (vs := ARv ⟨extendS, 0, numU p1, numU p0, []⟩ (.slice none 0 0)) rfl rfl rfl (fun i hi => by rw [add_lit, Blk.cell (t6.at_ (by have := x25.size; omega))]; simp) (by constructor) ⟨⟨_, rfl, NamesAt.nil _ _⟩, Mods.ext (x1.trans x25) t6.mods (fun k hk he => by omega)⟩
        · rw [if_pos hin, decide_eq_false hin]
          refine run ?_
          refine L.op (V.buildS (zl := ARv AZ (.slice none 0 0)) (cells := ARv AZ (.slice none 0 0)) (vals := []) rfl rfl rfl) ?_
          refine L.do0 (D.sta (b := h.size) (cs := ARv AZ (.slice none 0 0)) (vs := ARv AZ (.slice none 0 0)) rfl rfl rfl zeroA (b5) rfl) ?_
          rintro _ hz tz
          refine run ?_
          exact retCT (vs := ARv AZ (.slice none 0 0)) rfl rfl rfl (fun i hi => by rw [add_lit, Blk.cell (tz.at_ (by have := (x25).size; omega))]; simp) (by constructor) ⟨ARes.bad _ 1 hz, Mods.ext (x1.trans x25) tz.mods (fun k hk he => by omega)⟩
end Go.Proofs.YtoggdigclbcndaaDoor.E
