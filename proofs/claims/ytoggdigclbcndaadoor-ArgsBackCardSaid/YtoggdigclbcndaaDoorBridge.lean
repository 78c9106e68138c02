/-
  From the library's contracts to those of the calculus.
-/
import Derived.Test.YtoggdigclbcndaaDoorMem
import Derived.Test.YtoggdigclbcndaaDoorShelf
import Derived.Below
import Derived.Lib.SmallJoins
import Derived.Lib.ItoaMem
set_option linter.unusedVariables false
set_option linter.unusedSimpArgs false
namespace Go.Proofs.YtoggdigclbcndaaDoor.E
open Go Go.Proofs Go.RowKit Go.Sort
theorem wld_eta {w w' : World} (h1 : w'.os = w.os) (h2 : w'.tape = w.tape) (h3 : w'.output = w.output) : w' = wld w w'.heap w'.drawn := by
  cases w'; cases w; simp only at h1 h2 h3; subst h1 h2 h3; rfl
theorem RetQ.of_same {P : Program} {f : FuncId} {args : List Value} {h : Heap} {v : Value} (hc : ∀ w : World, w.heap = h → Calls P f args.toArray w fun e w' => e = .returned v ∧ w' = w) : RetQ P f args h v :=
  fun w hw => (hc w hw).mono fun _ _ ⟨he, hw'⟩ => ⟨he, w.drawn, by rw [hw', ← hw]; rfl⟩
theorem ext_below {w w' : World} (b : Below w.heap.size w w') : Ext w.heap w'.heap := ⟨b.size, fun k hk _ => b.block k hk⟩
theorem Ret.of_below {P : Program} {f : FuncId} {args : List Value} {h : Heap} {S : Value → Prop} (hc : ∀ w : World, w.heap = h → Calls P f args.toArray w fun e w' => (∃ v, e = .returned v ∧ S v) ∧ Below w.heap.size w w') :
    Ret P f args h (fun v h' => S v ∧ Ext h h') :=
  fun w hw => (hc w hw).mono fun _ w' ⟨⟨v, he, hs⟩, b⟩ => ⟨v, he, w'.heap, w'.drawn, wld_eta b.os b.tape b.output, hs, by rw [← hw]; exact ext_below b⟩
theorem below_grow (w : World) (k : Nat) (os : Array Obj) : Below w.heap.size w (grow (w.drewN k) os) := by
  refine ⟨?_, ?_, ?_, ?_, fun i hi => ?_⟩ <;> simp [grow, World.drewN]
  rw [Array.getElem?_append_left hi]
theorem below_bytes (w : World) (t : TypeId) (s : ByteArray) : Below w.heap.size w (Lib.bytesWorld w t s) := Lib.bytesWorld_below w t s
theorem below_ext {w : World} {h' : Heap} {d' : Nat} (x : Ext w.heap h') : Below w.heap.size w (wld w h' d') := ⟨rfl, rfl, rfl, x.size, fun k hk => x.block k hk id⟩
/-- a law's walk, as its row asks for it -/
theorem walk_of {P : Program} {f : FuncId} {args : List Value} {w : World} (hr : Ret P f args w.heap (fun v h' => v = .bool true ∧ Ext w.heap h')) : Calls P f args.toArray w fun e w' => e = .returned (.bool true) ∧ Below w.heap.size w w' :=
  (hr w rfl).mono fun e w' ⟨v, he, h', d', hw, hv, hx⟩ => by subst hv; subst hw; exact ⟨he, below_ext hx⟩
/-- what the package's variables hold -/
structure Vars (h : Heap) : Prop where
  maxLen : ∃ m, cellH h ⟨2, 0, none⟩ = some (.int .i64 m)
  errS : ∃ t p, cellH h ⟨0, 0, none⟩ = some (.iface t p)
  errR : ∃ t p, cellH h ⟨1, 0, none⟩ = some (.iface t p)
  pow : ∀ w : World, w.heap = h → Lib.TabIs Tryd.prog w "internal/strconv.uint64pow10" .u64 Lib.pow10Tab
theorem Ext.cell {h h' : Heap} (x : Ext h h') {a : Addr} {v : Value} (hc : cellH h a = some v) : cellH h' a = some v := by
  unfold cellH at hc ⊢
  split at hc
  · rename_i hb; rw [x.at hb]; exact hc
  · cases hc
theorem Vars.ext {h h' : Heap} (v : Vars h) (x : Ext h h') : Vars h' := by
  obtain ⟨⟨m, h1⟩, ⟨t, p, h2⟩, ⟨t', p', h3⟩, h4⟩ := v
  refine ⟨⟨m, x.cell h1⟩, ⟨t, p, x.cell h2⟩, ⟨t', p', x.cell h3⟩, fun w hw => ?_⟩
  exact Go.Joins.tab_stays (g := 3) (by kernel_rfl) (h4 { w with heap := h } rfl) (B := h.size) ⟨rfl, rfl, rfl, by rw [hw]; exact x.size, fun k hk => by rw [hw]; exact x.block k hk id⟩ (Nat.le_refl _)
end Go.Proofs.YtoggdigclbcndaaDoor.E
