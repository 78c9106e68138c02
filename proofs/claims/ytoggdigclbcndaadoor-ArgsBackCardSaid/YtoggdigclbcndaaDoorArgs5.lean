/-
  Package args, walked: same, Print.
-/
import Derived.Test.YtoggdigclbcndaaDoorArgs4
set_option linter.unusedVariables false
set_option linter.unusedSimpArgs false
namespace Go.Proofs.YtoggdigclbcndaaDoor.E
open Go Go.Proofs Go.RowKit
set_option maxRecDepth 100000
theorem map_ba_inj {a b : List (List UInt8)} : (a.map fun l => (⟨l.toArray⟩ : ByteArray)) = b.map (fun l => ⟨l.toArray⟩) ↔ a = b := by
  constructor
  · intro h
    have h2 := congrArg (List.map fun x : ByteArray => x.data.toList) h
    simpa [List.map_map, Function.comp_def] using h2
  · intro h; rw [h]
theorem equal_c {p q : Nat → Prop} (u v : Value) (la lb : List (List UInt8)) (h : Heap) (hu : NamesAt p h u la) (hv : NamesAt q h v lb) (hl : la.length ≤ 9223372036854775807) (hl2 : lb.length ≤ 9223372036854775807) :
    RetQ Tryd.prog 40 [u, v] h (.bool (decide (la = lb))) := by
  obtain ⟨A, c, rfl, hc, hA⟩ := hu
  obtain ⟨B, d, rfl, hd, hB⟩ := hv
  by_cases hlen : la.length = lb.length
  · rcases hA with hA | ⟨b1, o1, cs1, t1, z1, rfl, _, hb1, hc1⟩
    · have h0 : la = [] := List.map_eq_nil_iff.1 hA
      subst h0
      have h1 : lb = [] := List.eq_nil_of_length_eq_zero (by simpa using hlen.symm)
      subst h1
      exact RetQ.of_same fun w _ => by simpa using Tryd.slices_Equal_string_empty A B c 0 d w (by decide)
    · rcases hB with hB | ⟨b2, o2, cs2, t2, z2, rfl, _, hb2, hc2⟩
      · have h0 : lb = [] := List.map_eq_nil_iff.1 hB
        subst h0
        have h1 : la = [] := List.eq_nil_of_length_eq_zero (by simpa using hlen)
        subst h1
        exact RetQ.of_same fun w _ => by simpa using Tryd.slices_Equal_string_empty (some ⟨b1, o1, none⟩) B c 0 d w (by decide)
      · intro w hw
        have cell : ∀ (b o : Nat) (cs : Array Value) t z (ns : List (List UInt8)), h[b]? = some (.cells cs t z) → (∀ i, i < (ns.map S).length → cs[o + i]? = (ns.map S)[i]?) → ∀ j, j < (ns.map fun l => (⟨l.toArray⟩ : ByteArray)).length → w.cell? ⟨b, o + j, none⟩ = some (.string ((ns.map fun l => (⟨l.toArray⟩ : ByteArray)).getD j ByteArray.empty)) := by
          intro b o cs t z ns hb hcs j hj
          have hj' : j < ns.length := by simpa using hj
          have h1 := hcs j (by simpa using hj')
          rw [cellH_eq', hw]
          unfold cellH
          simp only [hb]
          simp [h1, hj', List.getD_eq_getElem?_getD]
        have e1 : (la.map fun l => (⟨l.toArray⟩ : ByteArray)).length = la.length := by simp
        have e2 : (lb.map fun l => (⟨l.toArray⟩ : ByteArray)).length = lb.length := by simp
        have he := Tryd.slices_Equal_string b1 o1 la.length c b2 o2 lb.length d (la.map fun l => ⟨l.toArray⟩) (lb.map fun l => ⟨l.toArray⟩) w (by rw [e1]; exact Nat.le_refl _) (by rw [e2]; exact Nat.le_refl _) hl hl2 (cell b1 o1 cs1 t1 z1 la hb1 hc1) (cell b2 o2 cs2 t2 z2 lb hb2 hc2)
        refine he.mono ?_
        rintro e w' ⟨rfl, k, rfl⟩
        refine ⟨?_, w.drawn + k, by rw [← hw]; rfl⟩
        congr 2
        have t1' : (la.map fun l => (⟨l.toArray⟩ : ByteArray)).take la.length = la.map fun l => ⟨l.toArray⟩ := by rw [← e1, List.take_length]
        have t2' : (lb.map fun l => (⟨l.toArray⟩ : ByteArray)).take lb.length = lb.map fun l => ⟨l.toArray⟩ := by rw [← e2, List.take_length]
        rw [t1', t2']
        by_cases hab : la = lb
        · rw [decide_eq_true hab, decide_eq_true (map_ba_inj.2 hab)]
        · rw [decide_eq_false hab, decide_eq_false (fun hx => hab (map_ba_inj.1 hx))]
  · have : la ≠ lb := fun he => hlen (by rw [he])
    rw [decide_eq_false this]
    exact RetQ.of_same fun w _ => Tryd.slices_Equal_string_lens A B la.length c lb.length d w hlen
/-- do two say the same? -/
def sameB (a b : AR) : Bool := decide (a.verb = b.verb ∧ a.sl = b.sl ∧ a.cn = b.cn ∧ a.fr = b.fr ∧ a.names = b.names)
theorem same_c {p q : Nat → Prop} (a b : AR) (u v : Value) (h : Heap) (hu : NamesAt p h u a.names) (hv : NamesAt q h v b.names) (hl : a.names.length ≤ 9223372036854775807) (hl2 : b.names.length ≤ 9223372036854775807) :
    Ret Tryd.prog 27 [.agg (ARv a u).toArray, .agg (ARv b v).toArray] h (fun r h' => r = .bool (sameB a b) ∧ Ext h h') := by
  refine Ret.enter Tryd.func27 rfl Tryd.ntmps27 (by show 2 ≤ 38; decide) fun w0 => ?_
  refine run ?_
  refine L.do1 (D.bx (v := .agg (ARv a u).toArray) (cs := ARv a u) rfl rfl) ?_
  rintro _ h1 ⟨rfl, n1⟩
  refine L.do1 (D.bx (v := .agg (ARv b v).toArray) (cs := ARv b v) rfl rfl) ?_
  rintro _ h2 ⟨rfl, n2⟩
  have s1 := n1.size
  have x2 : Ext h h2 := n1.ext.trans n2.ext
  have b1 : Blk h2 h.size (ARv a u) 32 := n2.ext.at n1.at_
  have b2 : Blk h2 h1.size (ARv b v) 32 := n2.at_
  have c1 : ∀ i, cellH h2 ⟨h.size, i, none⟩ = (ARv a u)[i]? := fun i => Blk.cell b1 i
  have c2 : ∀ i, cellH h2 ⟨h1.size, i, none⟩ = (ARv b v)[i]? := fun i => Blk.cell b2 i
  unfold sameB
  refine run ?_
  refine L.op (V.load (v := S a.verb) rfl (c1 0)) ?_
  refine run ?_
  refine L.op (V.load (v := S b.verb) rfl (c2 0)) ?_
  by_cases e1 : a.verb = b.verb
  rotate_left
  · rw [decide_eq_false (fun hx => e1 hx.1)]
    refine run ?_
    exact ret1 rfl (by constructor) ⟨rfl, x2⟩
  refine run ?_
  refine L.gyes rfl rfl (V.load (v := .int .i64 a.sl) rfl (c1 1)) ?_
  refine run ?_
  refine L.gyes rfl rfl (V.load (v := .int .i64 b.sl) rfl (c2 1)) ?_
  by_cases e2 : a.sl = b.sl
  rotate_left
  · rw [decide_eq_false (fun hx => e2 hx.2.1)]
    refine run ?_
    exact ret1 rfl (by constructor) ⟨rfl, x2⟩
  refine run ?_
  refine L.gyes rfl rfl (V.load (v := .int .i64 a.cn) rfl (c1 2)) ?_
  refine run ?_
  refine L.gyes rfl rfl (V.load (v := .int .i64 b.cn) rfl (c2 2)) ?_
  by_cases e3 : a.cn = b.cn
  rotate_left
  · rw [decide_eq_false (fun hx => e3 hx.2.2.1)]
    refine run ?_
    exact ret1 rfl (by constructor) ⟨rfl, x2⟩
  refine run ?_
  refine L.gyes rfl rfl (V.load (v := .int .u32 a.fr) rfl (c1 3)) ?_
  refine run ?_
  refine L.gyes rfl rfl (V.load (v := .int .u32 b.fr) rfl (c2 3)) ?_
  by_cases e4 : a.fr = b.fr
  rotate_left
  · rw [decide_eq_false (fun hx => e4 hx.2.2.2.1)]
    refine run ?_
    exact ret1 rfl (by constructor) ⟨rfl, x2⟩
  refine run ?_
  have hq := equal_c u v a.names b.names h2 (hu.ext x2) (hv.ext x2) hl hl2
  obtain ⟨A, c, rfl, -⟩ := hu
  obtain ⟨B, d, rfl, -⟩ := hv
  refine L.gyes rfl rfl (V.load (v := .slice A a.names.length c) rfl (c1 4)) ?_
  refine run ?_
  refine L.gyes rfl rfl (V.load (v := .slice B b.names.length d) rfl (c2 4)) ?_
  refine L.cqg rfl rfl rfl hq ?_
  by_cases e5 : a.names = b.names
  · rw [decide_eq_true e5, decide_eq_true ⟨e1, e2, e3, e4, e5⟩]
    refine run ?_
    exact ret1 rfl (by constructor) ⟨rfl, x2⟩
  · rw [decide_eq_false e5, decide_eq_false (fun hx => e5 hx.2.2.2.2)]
    refine run ?_
    exact ret1 rfl (by constructor) ⟨rfl, x2⟩
def printP (a : AR) : List UInt8 × Int := if (parsP (textP a)).2 ≠ 0 ∨ sameB (parsP (textP a)).1 a = false then ([], 1) else (textP a, 0)
theorem print_c {p : Nat → Prop} (a : AR) (nv : Value) (h : Heap) (hV : Vars h) (hn : NamesAt p h nv a.names) (hr : InR a) (hl : a.names.length ≤ 50000) (ht : (textP a).length ≤ 1000000) (hpl : (parsP (textP a)).1.names.length ≤ 9223372036854775807) :
    Ret Tryd.prog 17 [.agg (ARv a nv).toArray] h (fun v h' => v = .tuple #[S (printP a).1, .int .i64 (printP a).2] ∧ Ext h h') := by
  refine Ret.enter Tryd.func17 rfl Tryd.ntmps17 (by show 1 ≤ 23; decide) fun w0 => ?_
  refine run ?_
  refine L.do1 (D.bx (v := .agg (ARv a nv).toArray) (cs := ARv a nv) rfl rfl) ?_
  rintro _ h1 ⟨rfl, n1⟩
  have x1 := n1.ext
  have s1 := n1.size
  have b1 : Blk h1 h.size (ARv a nv) 32 := n1.at_
  refine run ?_
  refine L.op (V.loada (vs := ARv a nv) rfl rfl (fun i hi => by rw [add_lit, Blk.cell b1]; simp)) ?_
  refine L.c1 rfl (text_c a nv h1 (hV.ext x1) (hn.ext x1) hr hl (by omega)) ?_
  rintro _ h2 ⟨rfl, x2⟩
  refine run ?_
  refine L.c1 rfl (parse_c (textP a) h2 (hV.ext (x1.trans x2)) ht) ?_
  rintro _ h3 ⟨⟨pv, rfl, hpn⟩, x3⟩
  have x23 : Ext h1 h3 := x2.trans x3
  have q3 := x23.size
  refine run ?_
  refine L.do1 (D.al (cs := ARv AZ (.slice none 0 0)) rfl) ?_
  rintro _ h4 ⟨rfl, n4⟩
  have s4 := n4.size
  refine L.do0 (D.sta (b := h3.size) (cs := ARv AZ (.slice none 0 0)) (vs := ARv (parsP (textP a)).1 pv) rfl rfl rfl (oneA _ hpn) n4.at_ rfl) ?_
  rintro _ h5 t5
  have x35 : Ext h3 h5 := Mods.ext n4.ext t5.mods (fun k hk he => by omega)
  have x15 : Ext h1 h5 := x23.trans x35
  have b5 : Blk h5 h.size (ARv a nv) 32 := x15.at b1
  have e5 : Blk h5 h3.size (ARv (parsP (textP a)).1 pv) 32 := t5.at_ (by omega)
  unfold printP
  by_cases hne : (parsP (textP a)).2 = 0
  rotate_left
  · rw [if_pos (.inl hne)]
    refine run ?_
    exact ret2 rfl (by constructor) (by constructor) ⟨rfl, x1.trans x15⟩
  rw [hne]
  refine run ?_
  refine L.gyes rfl rfl (V.loada (vs := ARv (parsP (textP a)).1 pv) rfl rfl (fun i hi => by rw [add_lit, Blk.cell e5]; simp)) ?_
  refine L.gyes rfl rfl (V.loada (vs := ARv a nv) rfl rfl (fun i hi => by rw [add_lit, Blk.cell b5]; simp)) ?_
  refine L.c1g rfl rfl rfl (same_c (parsP (textP a)).1 a pv nv h5 (hpn.ext x35) (hn.ext (x1.trans x15)) hpl (by omega)) ?_
  rintro _ h6 ⟨rfl, x6⟩
  cases hs : sameB (parsP (textP a)).1 a with
  | false =>
    rw [if_pos (.inr rfl)]
    refine run ?_
    exact ret2 rfl (by constructor) (by constructor) ⟨rfl, x1.trans (x15.trans x6)⟩
  | true =>
    rw [if_neg (by simp)]
    refine run ?_
    exact ret2 rfl (by constructor) (by constructor) ⟨rfl, x1.trans (x15.trans x6)⟩
end Go.Proofs.YtoggdigclbcndaaDoor.E
