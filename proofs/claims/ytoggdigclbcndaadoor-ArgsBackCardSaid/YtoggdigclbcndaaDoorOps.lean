/-
  What single operations yield: laws over any program, in the calculus of Eng.
-/
import Derived.Test.YtoggdigclbcndaaDoorEng
set_option linter.unusedVariables false
set_option linter.unusedSimpArgs false
namespace Go.Proofs.YtoggdigclbcndaaDoor.E
open Go

/-! ### Types, as facts that are found by themselves -/
class IntT (P : Program) (t : TypeId) (k : outParam IntKind) : Prop where
  mk :: (out : P.underlying t = some (.int k))
class SliceT (P : Program) (t : TypeId) (e : outParam TypeId) : Prop where
  mk :: (out : P.underlying t = some (.slice e))
class ArrT (P : Program) (t : TypeId) (len : outParam Nat) (e : outParam TypeId) : Prop where
  mk :: (out : P.underlying t = some (.array len e))
class StrT (P : Program) (t : TypeId) : Prop where
  mk :: (out : P.underlying t = some .string)
class BoolT (P : Program) (t : TypeId) : Prop where
  mk :: (out : P.underlying t = some .bool)
class PtrT (P : Program) (t : TypeId) (e : outParam TypeId) : Prop where
  mk :: (out : P.underlying t = some (.pointer e))
class MapT (P : Program) (t : TypeId) (k : outParam TypeId) (e : outParam TypeId) : Prop where
  mk :: (out : P.underlying t = some (.map k e))
/-- cells and bytes of a type -/
class InfoT (P : Program) (t : TypeId) (sz : outParam Nat) (by_ : outParam Nat) : Prop where
  mk :: (out : (P.info? t).map (fun i => (i.size, i.bytes)) = some (sz, by_))
/-- a type's zero value -/
class ZeroT (P : Program) (t : TypeId) (z : outParam Value) : Prop where
  mk :: (out : (P.info? t).bind (·.zero) = some z)
/-- a type of one cell; of several -/
class FlatT (P : Program) (t : TypeId) : Prop where
  mk :: (out : ∀ w, (isAgg t).run P w = .ok false w)
class AggT (P : Program) (t : TypeId) : Prop where
  mk :: (out : ∀ w, (isAgg t).run P w = .ok true w)
theorem isAgg_run {P : Program} {t : TypeId} {w : World} : (isAgg t).run P w = match P.underlying t with | some (.struct _) | some (.array _ _) => .ok true w | some _ => .ok false w | none => .halt (.stuck "no such type") w := by
  simp only [isAgg, underlying, Sem.run_bind, run_program, Result.andThen_ok]
  cases P.underlying t with
  | none => rfl
  | some d => cases d <;> rfl
theorem FlatT.of_int {P : Program} {t : TypeId} {k : IntKind} (h : P.underlying t = some (.int k)) : FlatT P t := ⟨fun w => by simp [isAgg, run_underlying h]⟩

/-! ### The heap -/
def cellH (h : Heap) (a : Addr) : Option Value :=
  match h[a.block]? with
  | some (.cells c _ _) => if a.spot.isSome then none else c[a.off]?
  | _ => none
theorem cellH_eq (w : World) (h : Heap) (d : Nat) (a : Addr) : (wld w h d).cell? a = cellH h a := rfl
theorem cellH_eq' (w : World) (a : Addr) : w.cell? a = cellH w.heap a := rfl
/-- block b is a row of cells that may be written -/
abbrev Blk (h : Heap) (b : Nat) (cs : List Value) (t : TypeId) : Prop := h[b]? = some (.cells cs.toArray t (0, 0))
theorem Blk.cell {h : Heap} {b : Nat} {cs : List Value} {t : TypeId} (hb : Blk h b cs t) (i : Nat) : cellH h ⟨b, i, none⟩ = cs[i]? := by
  simp [cellH, hb]
theorem Blk.lt {h : Heap} {b : Nat} {cs : List Value} {t : TypeId} (hb : Blk h b cs t) : b < h.size := (Array.getElem?_eq_some_iff.1 hb).1
/-- h' is h but for what S lets -/
structure Mods (S : Nat → Prop) (h h' : Heap) : Prop where
  size : h.size ≤ h'.size
  block : ∀ k, k < h.size → ¬ S k → h'[k]? = h[k]?
abbrev Ext (h h' : Heap) : Prop := Mods (fun _ => False) h h'
theorem Mods.refl (S : Nat → Prop) (h : Heap) : Mods S h h := ⟨Nat.le_refl _, fun _ _ _ => rfl⟩
theorem Mods.trans {S : Nat → Prop} {a b c : Heap} (x : Mods S a b) (y : Mods S b c) : Mods S a c :=
  ⟨Nat.le_trans x.size y.size, fun k hk hS => (y.block k (Nat.lt_of_lt_of_le hk x.size) hS).trans (x.block k hk hS)⟩
theorem Mods.mono {S T : Nat → Prop} {a b : Heap} (x : Mods S a b) (hST : ∀ k, k < a.size → S k → T k) : Mods T a b :=
  ⟨x.size, fun k hk hT => x.block k hk (fun hS => hT (hST k hk hS))⟩
theorem Ext.mods {S : Nat → Prop} {a b : Heap} (x : Ext a b) : Mods S a b := x.mono (fun _ _ h => h.elim)
/-- what is new in a heap may be turned -/
theorem Mods.ext {S : Nat → Prop} {a b c : Heap} (x : Ext a b) (y : Mods S b c) (hS : ∀ k, k < a.size → ¬ S k) : Ext a c :=
  ⟨Nat.le_trans x.size y.size, fun k hk _ => (y.block k (Nat.lt_of_lt_of_le hk x.size) (hS k hk)).trans (x.block k hk id)⟩
theorem Ext.at {h h' : Heap} (x : Ext h h') {k : Nat} {o : Obj} (hk : h[k]? = some o) : h'[k]? = some o := (x.block k (Array.getElem?_eq_some_iff.1 hk).1 id).trans hk
theorem Mods.at {S : Nat → Prop} {h h' : Heap} (x : Mods S h h') {k : Nat} {o : Obj} (hk : h[k]? = some o) (hS : ¬ S k) : h'[k]? = some o := (x.block k (Array.getElem?_eq_some_iff.1 hk).1 hS).trans hk
theorem Mods.push (S : Nat → Prop) (h : Heap) (o : Obj) : Mods S h (h.push o) :=
  ⟨by simp, fun k hk _ => by rw [Array.getElem?_push, if_neg (by omega)]⟩
theorem push_new (h : Heap) (o : Obj) : (h.push o)[h.size]? = some o := by simp
theorem push_old {h : Heap} (o : Obj) {k : Nat} {x : Obj} (hk : h[k]? = some x) : (h.push o)[k]? = some x := (Mods.push (fun _ => False) h o).at hk id
/-- a block turned -/
def setB (h : Heap) (b : Nat) (o : Obj) : Heap := h.setIfInBounds b o
theorem setB_size (h : Heap) (b : Nat) (o : Obj) : (setB h b o).size = h.size := by simp [setB]
theorem setB_same {h : Heap} {b : Nat} (o : Obj) (hb : b < h.size) : (setB h b o)[b]? = some o := by simp [setB, hb]
theorem setB_other {h : Heap} {b k : Nat} (o : Obj) (hk : k ≠ b) : (setB h b o)[k]? = h[k]? := by
  simp only [setB, Array.getElem?_setIfInBounds]; rw [if_neg (fun e => hk e.symm)]
theorem setB_mods (h : Heap) (b : Nat) (o : Obj) : Mods (fun k => k = b) h (setB h b o) :=
  ⟨by rw [setB_size]; exact Nat.le_refl _, fun k _ hk => setB_other o hk⟩
theorem setB_setB (h : Heap) (b : Nat) (o o' : Obj) : setB (setB h b o) b o' = setB h b o' := by simp [setB]

/-! ### Slices that are read -/
/-- the cells from an address on -/
def Row (h : Heap) (A : Option Addr) (vs : List Value) : Prop :=
  vs = [] ∨ ∃ b o cs t z, A = some ⟨b, o, none⟩ ∧ h[b]? = some (.cells cs t z) ∧ ∀ i, i < vs.length → cs[o + i]? = vs[i]?
theorem Row.nil (h : Heap) (A : Option Addr) : Row h A [] := .inl rfl
theorem Row.ext {h h' : Heap} {A : Option Addr} {vs : List Value} (r : Row h A vs) (x : Ext h h') : Row h' A vs := by
  rcases r with r | ⟨b, o, cs, t, z, hA, hb, hc⟩
  · exact .inl r
  · exact .inr ⟨b, o, cs, t, z, hA, x.at hb, hc⟩
theorem add_lit (b o n : Nat) : (⟨b, o, none⟩ : Addr).add n = ⟨b, o + n, none⟩ := by unfold Addr.add; split <;> simp_all
/-- the address, and the cell at i -/
theorem Row.cell {h : Heap} {A : Option Addr} {vs : List Value} (r : Row h A vs) {i : Nat} (hi : i < vs.length) : ∃ a, A = some a ∧ cellH h (a.add i) = some vs[i] := by
  rcases r with r | ⟨b, o, cs, t, z, hA, hb, hc⟩
  · subst r; simp at hi
  · refine ⟨_, hA, ?_⟩
    rw [add_lit]
    simp [cellH, hb, hc i hi, List.getElem?_eq_getElem hi]
theorem Row.take {h : Heap} {A : Option Addr} {vs : List Value} (r : Row h A vs) (n : Nat) : Row h A (vs.take n) := by
  rcases r with r | ⟨b, o, cs, t, z, hA, hb, hc⟩
  · subst r; exact .inl (by simp)
  · refine .inr ⟨b, o, cs, t, z, hA, hb, fun i hi => ?_⟩
    simp only [List.length_take] at hi
    rw [hc i (by omega), List.getElem?_take, if_pos (by omega)]
theorem Row.drop {h : Heap} {A : Option Addr} {vs : List Value} (r : Row h A vs) (n : Nat) : Row h (A.map (·.add n)) (vs.drop n) := by
  rcases r with r | ⟨b, o, cs, t, z, hA, hb, hc⟩
  · subst r; exact .inl (by simp)
  · refine .inr ⟨b, o + n, cs, t, z, by rw [hA, Option.map_some, add_lit], hb, fun i hi => ?_⟩
    simp only [List.length_drop] at hi
    rw [Nat.add_assoc, hc (n + i) (by omega), List.getElem?_drop]
theorem Row.of_blk {h : Heap} {b : Nat} {cs : List Value} {t : TypeId} (hb : Blk h b cs t) : Row h (some ⟨b, 0, none⟩) cs :=
  .inr ⟨b, 0, _, t, _, rfl, hb, fun i _ => by simp⟩

/-! ### What is the call's own: rows that may grow -/
def Own (h : Heap) (base : Nat) (e : TypeId) (sz : Nat) (v : Value) (n : Nat) (xs : List Value) : Prop := (wld default h 0).ownsRow base e sz v n xs
theorem own_wld {w : World} {h : Heap} {d base : Nat} {e : TypeId} {sz : Nat} {v : Value} {n : Nat} {xs : List Value} : (wld w h d).ownsRow base e sz v n xs ↔ Own h base e sz v n xs := Iff.rfl
theorem Own.nil (h : Heap) (base : Nat) (e : TypeId) (sz : Nat) : Own h base e sz (.slice none 0 0) 0 [] := World.ownsRow_nil _ _ _ _
theorem Own.len {h : Heap} {base : Nat} {e : TypeId} {sz : Nat} {v : Value} {n : Nat} {xs : List Value} (o : Own h base e sz v n xs) : xs.length = n * sz := o.1
theorem Own.mods {S : Nat → Prop} {h h' : Heap} {base : Nat} {e : TypeId} {sz : Nat} {v : Value} {n : Nat} {xs : List Value} (o : Own h base e sz v n xs) (x : Mods S h h') (hS : ∀ k, v.ownBlock = some k → ¬ S k) : Own h' base e sz v n xs := by
  refine ⟨o.1, ?_⟩
  rcases o.2 with o | ⟨g, cap, cur, hv, hb, hg, r⟩
  · exact .inl o
  · refine .inr ⟨g, cap, cur, hv, hb, ?_, r⟩
    exact x.at hg (hS g (by rw [hv]; rfl))
theorem Own.ext {h h' : Heap} {base : Nat} {e : TypeId} {sz : Nat} {v : Value} {n : Nat} {xs : List Value} (o : Own h base e sz v n xs) (x : Ext h h') : Own h' base e sz v n xs := o.mods x (fun _ _ => id)
theorem Own.base {h : Heap} {base : Nat} {e : TypeId} {sz : Nat} {v : Value} {n : Nat} {xs : List Value} (o : Own h base e sz v n xs) {k : Nat} (hk : v.ownBlock = some k) : base ≤ k ∧ k < h.size := World.ownsRow.lt o k hk
/-- its shape, and that it may be read -/
theorem Own.row {h : Heap} {base : Nat} {e : TypeId} {sz : Nat} {v : Value} {n : Nat} {xs : List Value} (o : Own h base e sz v n xs) : ∃ A c, v = .slice A n c ∧ n ≤ c ∧ c ≤ maxLen ∧ Row h A xs := by
  rcases o.2 with ⟨rfl, rfl⟩ | ⟨g, cap, cur, rfl, hb, hg, hn, hm, hs, ht⟩
  · have : xs = [] := List.eq_nil_of_length_eq_zero (by simpa using o.1)
    subst this
    exact ⟨none, 0, rfl, Nat.le_refl _, by simp, Row.nil _ _⟩
  · refine ⟨_, cap, rfl, hn, hm, .inr ⟨g, 0, cur, e, _, rfl, hg, fun i hi => ?_⟩⟩
    rw [← ht, List.getElem?_take, if_pos (by rw [o.1] at hi; exact hi)]
    simp

section
variable {P : Program} {w0 : World} {n : Nat} {σ : Slots} {h : Heap} {ty : TypeId}
theorem V.intro {op : Op} {v : Value} (hr : ∀ (w : World) (o : Oper), w.heap = h → o.op = op → o.type = ty → (execOp (ev n σ) o).run P w = .ok (.value v) w) : V P w0 n σ h op ty v :=
  ⟨fun d dst pos after g => by rw [fr_eval']; exact hr _ _ rfl rfl rfl⟩
theorem D.intro {op : Op} {S : Value → Heap → Prop} (hr : ∀ (w : World) (o : Oper), w.heap = h → o.op = op → o.type = ty → ∃ v h' d', ((execOp (ev n σ) o).run P w = .ok (.value v) (wld w h' d') ∨ ((execOp (ev n σ) o).run P w = .ok .skip (wld w h' d') ∧ v = undef)) ∧ S v h') : D P w0 n σ h op ty S :=
  ⟨fun d dst pos after g => by rw [fr_eval']; exact hr _ _ rfl rfl rfl⟩

/-! ### Copies, numbers -/
theorem V.move {x : Operand} {v : Value} (hx : ev n σ x = v) : V P w0 n σ h (.move x) ty v := .intro fun w o _ ho _ => by simp [execOp, ho, hx]
theorem V.assign {x : Operand} {v : Value} (hx : ev n σ x = v) : V P w0 n σ h (.assign x) ty v := .intro fun w o _ ho _ => by simp [execOp, ho, hx]
/-- whatever two whole numbers come to -/
theorem V.bin {op : BinOp} {t t' : TypeId} {x y : Operand} {k : IntKind} {a b : Int} {v : Value} (hx : ev n σ x = .int k a) (hy : ev n σ y = .int k b)
    (hr : ∀ w : World, (binOp op t (.int k a) (.int k b)).run P w = .ok v w) : V P w0 n σ h (.binOp op t x y t') ty v :=
  .intro fun w o _ ho _ => by
    unfold execOp
    rw [ho]
    simp only [hx, hy, eqGuard]
    split <;> simp [hr]
theorem V.add {t t' : TypeId} {x y : Operand} {k : IntKind} {a b : Int} (hx : ev n σ x = .int k a) (hy : ev n σ y = .int k b) : V P w0 n σ h (.binOp .add t x y t') ty (.int k (k.wrap (a + b))) :=
  .bin hx hy fun w => by simp [binOp, Op.intArith]
theorem V.sub {t t' : TypeId} {x y : Operand} {k : IntKind} {a b : Int} (hx : ev n σ x = .int k a) (hy : ev n σ y = .int k b) : V P w0 n σ h (.binOp .sub t x y t') ty (.int k (k.wrap (a - b))) :=
  .bin hx hy fun w => by simp [binOp, Op.intArith]
theorem V.mul {t t' : TypeId} {x y : Operand} {k : IntKind} {a b : Int} (hx : ev n σ x = .int k a) (hy : ev n σ y = .int k b) : V P w0 n σ h (.binOp .mul t x y t') ty (.int k (k.wrap (a * b))) :=
  .bin hx hy fun w => by simp [binOp, Op.intArith]
theorem V.quo {t t' : TypeId} {x y : Operand} {k : IntKind} {a b : Int} (hx : ev n σ x = .int k a) (hy : ev n σ y = .int k b) (hb : b ≠ 0) : V P w0 n σ h (.binOp .quo t x y t') ty (.int k (k.wrap (a.tdiv b))) :=
  .bin hx hy fun w => by simp [binOp, Op.intDiv, hb]
theorem V.rem {t t' : TypeId} {x y : Operand} {k : IntKind} {a b : Int} (hx : ev n σ x = .int k a) (hy : ev n σ y = .int k b) (hb : b ≠ 0) : V P w0 n σ h (.binOp .rem t x y t') ty (.int k (a.tmod b)) :=
  .bin hx hy fun w => by simp [binOp, Op.intDiv, hb]
theorem V.lss {t t' : TypeId} {x y : Operand} {k : IntKind} {a b : Int} (hx : ev n σ x = .int k a) (hy : ev n σ y = .int k b) : V P w0 n σ h (.binOp .lss t x y t') ty (.bool (decide (a < b))) :=
  .bin hx hy fun w => by simp [binOp, Op.intCmp]
theorem V.leq {t t' : TypeId} {x y : Operand} {k : IntKind} {a b : Int} (hx : ev n σ x = .int k a) (hy : ev n σ y = .int k b) : V P w0 n σ h (.binOp .leq t x y t') ty (.bool (decide (a ≤ b))) :=
  .bin hx hy fun w => by simp [binOp, Op.intCmp]
theorem V.gtr {t t' : TypeId} {x y : Operand} {k : IntKind} {a b : Int} (hx : ev n σ x = .int k a) (hy : ev n σ y = .int k b) : V P w0 n σ h (.binOp .gtr t x y t') ty (.bool (decide (b < a))) :=
  .bin hx hy fun w => by simp [binOp, Op.intCmp]
theorem V.geq {t t' : TypeId} {x y : Operand} {k : IntKind} {a b : Int} (hx : ev n σ x = .int k a) (hy : ev n σ y = .int k b) : V P w0 n σ h (.binOp .geq t x y t') ty (.bool (decide (b ≤ a))) :=
  .bin hx hy fun w => by simp [binOp, Op.intCmp]
theorem beq_decide (a b : Int) : (a == b) = decide (a = b) := by by_cases h : a = b <;> simp [h]
theorem bne_decide (a b : Int) : (a != b) = decide (a ≠ b) := by by_cases h : a = b <;> simp [h]
theorem V.eql {t t' : TypeId} {x y : Operand} {k : IntKind} {a b : Int} (hx : ev n σ x = .int k a) (hy : ev n σ y = .int k b) : V P w0 n σ h (.binOp .eql t x y t') ty (.bool (decide (a = b))) :=
  .bin hx hy fun w => by rw [← beq_decide]; simp [binOp, Op.intCmp]
theorem V.neq {t t' : TypeId} {x y : Operand} {k : IntKind} {a b : Int} (hx : ev n σ x = .int k a) (hy : ev n σ y = .int k b) : V P w0 n σ h (.binOp .neq t x y t') ty (.bool (decide (a ≠ b))) :=
  .bin hx hy fun w => by rw [← bne_decide]; simp [binOp, Op.intCmp]
/-- bits, as the model has them -/
def bitsOf (op : BinOp) (k : IntKind) (a b : Int) : Int :=
  match op with
  | .and => k.wrap ((BitVec.ofInt k.bits a &&& BitVec.ofInt k.bits b).toNat : Int)
  | .or => k.wrap ((BitVec.ofInt k.bits a ||| BitVec.ofInt k.bits b).toNat : Int)
  | .xor => k.wrap ((BitVec.ofInt k.bits a ^^^ BitVec.ofInt k.bits b).toNat : Int)
  | _ => k.wrap ((BitVec.ofInt k.bits a &&& ~~~BitVec.ofInt k.bits b).toNat : Int)
theorem V.and {t t' : TypeId} {x y : Operand} {k : IntKind} {a b : Int} (hx : ev n σ x = .int k a) (hy : ev n σ y = .int k b) : V P w0 n σ h (.binOp .and t x y t') ty (.int k (bitsOf .and k a b)) :=
  .bin hx hy fun w => by simp [binOp, Op.intBits, bitsOf]
theorem V.or {t t' : TypeId} {x y : Operand} {k : IntKind} {a b : Int} (hx : ev n σ x = .int k a) (hy : ev n σ y = .int k b) : V P w0 n σ h (.binOp .or t x y t') ty (.int k (bitsOf .or k a b)) :=
  .bin hx hy fun w => by simp [binOp, Op.intBits, bitsOf]
theorem V.xor {t t' : TypeId} {x y : Operand} {k : IntKind} {a b : Int} (hx : ev n σ x = .int k a) (hy : ev n σ y = .int k b) : V P w0 n σ h (.binOp .xor t x y t') ty (.int k (bitsOf .xor k a b)) :=
  .bin hx hy fun w => by simp [binOp, Op.intBits, bitsOf]
theorem V.andNot {t t' : TypeId} {x y : Operand} {k : IntKind} {a b : Int} (hx : ev n σ x = .int k a) (hy : ev n σ y = .int k b) : V P w0 n σ h (.binOp .andNot t x y t') ty (.int k (bitsOf .andNot k a b)) :=
  .bin hx hy fun w => by simp [binOp, Op.intBits, bitsOf]
theorem V.shl {t t' : TypeId} {x y : Operand} {k k' : IntKind} {a b : Int} (hx : ev n σ x = .int k a) (hy : ev n σ y = .int k' b) (hb : 0 ≤ b) : V P w0 n σ h (.binOp .shl t x y t') ty (.int k (k.wrap (a * 2 ^ min b.toNat k.bits))) :=
  .intro fun w o _ ho _ => by
    have : ¬ b < 0 := by omega
    simp [execOp, ho, hx, hy, eqGuard, binOp, Op.shift, this]
theorem V.shr {t t' : TypeId} {x y : Operand} {k k' : IntKind} {a b : Int} (hx : ev n σ x = .int k a) (hy : ev n σ y = .int k' b) (hb : 0 ≤ b) : V P w0 n σ h (.binOp .shr t x y t') ty (.int k (a.fdiv (2 ^ min b.toNat k.bits))) :=
  .intro fun w o _ ho _ => by
    have : ¬ b < 0 := by omega
    simp [execOp, ho, hx, hy, eqGuard, binOp, Op.shift, this]
theorem V.conv {s t : TypeId} {x : Operand} {k k' : IntKind} {a : Int} [hs : IntT P s k'] [ht : IntT P t k] (hx : ev n σ x = .int k' a) : V P w0 n σ h (.convert s t x) ty (.int k (k.wrap a)) :=
  .intro fun w o _ ho _ => by simp [execOp, ho, hx, convert, run_underlying hs.out, run_underlying ht.out, Conv.intToInt]
theorem V.not {t : TypeId} {x : Operand} {b : Bool} (hx : ev n σ x = .bool b) : V P w0 n σ h (.unOp .not t x) ty (.bool (!b)) :=
  .intro fun w o _ ho _ => by simp [execOp, ho, hx, Op.unary]
theorem V.neg {t : TypeId} {x : Operand} {k : IntKind} {a : Int} (hx : ev n σ x = .int k a) : V P w0 n σ h (.unOp .neg t x) ty (.int k (k.wrap (0 - a))) :=
  .intro fun w o _ ho _ => by simp [execOp, ho, hx, Op.unary, Op.intArith]
theorem V.inv {t : TypeId} {x : Operand} {k : IntKind} {a : Int} (hx : ev n σ x = .int k a) : V P w0 n σ h (.unOp .xor t x) ty (.int k (bitsOf .xor k (if k.signed then -1 else k.max) a)) :=
  .intro fun w o _ ho _ => by simp [execOp, ho, hx, Op.unary, Op.intBits, bitsOf]
theorem V.pick {c x y : Operand} {b : Bool} {v : Value} (hc : ev n σ c = .bool b) (hx : (if b then ev n σ x else ev n σ y) = v) : V P w0 n σ h (.pick c x y) ty v :=
  .intro fun w o _ ho _ => by subst hx; simp [execOp, ho, hc, asBool]
theorem V.extract {x : Operand} {i : Nat} {vs : Array Value} {v : Value} (hx : ev n σ x = .tuple vs) (hv : vs[i]? = some v) : V P w0 n σ h (.extract x i) ty v :=
  .intro fun w o _ ho _ => by simp [execOp, ho, hx, Instr.extract, hv]

/-! ### Lengths, addresses, loads -/
theorem V.len {t : TypeId} {x : Operand} {A : Option Addr} {l c : Nat} {e : TypeId} [ht : SliceT P t e] (hx : ev n σ x = .slice A l c) : V P w0 n σ h (.call { callee := .builtin .len, args := #[x], argTypes := #[t] }) ty (.int .i64 (l : Int)) :=
  .intro fun w o _ ho _ => by simp [execOp, ho, hx, resolve, invoke, builtin, Builtin.len_, run_underlying ht.out, goInt]
theorem V.lens {t : TypeId} {x : Operand} {s : ByteArray} [ht : StrT P t] (hx : ev n σ x = .string s) : V P w0 n σ h (.call { callee := .builtin .len, args := #[x], argTypes := #[t] }) ty (.int .i64 (s.size : Int)) :=
  .intro fun w o _ ho _ => by simp [execOp, ho, hx, resolve, invoke, builtin, Builtin.len_, run_underlying ht.out, goInt]
theorem run_sizeOf {t sz by_ : Nat} [hi : InfoT P t sz by_] (w : World) : (sizeOf t).run P w = .ok sz w := by
  have h := hi.out
  obtain ⟨i, hi', hh⟩ := Option.map_eq_some_iff.1 h
  simp only [Prod.mk.injEq] at hh
  simp [sizeOf, typeInfo, hi', hh.1]
theorem V.idx {t e sz by_ : Nat} {x y : Operand} {a : Addr} {l c : Nat} {k : IntKind} {i : Int} [ht : SliceT P t e] [hi : InfoT P e sz by_] (hx : ev n σ x = .slice (some a) l c) (hy : ev n σ y = .int k i)
    (h0 : 0 ≤ i) (h1 : i < l) : V P w0 n σ h (.indexAddr t x y) ty (.pointer (some (a.add (i.toNat * sz)))) :=
  .intro fun w o _ ho _ => by simp [execOp, ho, hx, hy, Instr.indexAt, asIntOf, run_underlying ht.out, h0, h1, run_sizeOf]
/-- an element's address in a variable that is an array -/
theorem V.idxa {t e sz by_ l : Nat} {x y : Operand} {a : Addr} {k : IntKind} {i : Int} [ht : ArrT P t l e] [hi : InfoT P e sz by_] (hx : ev n σ x = .pointer (some a)) (hy : ev n σ y = .int k i)
    (h0 : 0 ≤ i) (h1 : i < l) : V P w0 n σ h (.indexAddr t x y) ty (.pointer (some (a.add (i.toNat * sz)))) :=
  .intro fun w o _ ho _ => by simp [execOp, ho, hx, hy, Instr.indexAt, Instr.sureAddr, asIntOf, run_underlying ht.out, h0, h1, run_sizeOf]
theorem V.idxs {t : TypeId} {x y : Operand} {s : ByteArray} {k : IntKind} {i : Int} [ht : StrT P t] (hx : ev n σ x = .string s) (hy : ev n σ y = .int k i) (h0 : 0 ≤ i) (h1 : i.toNat < s.size) :
    V P w0 n σ h (.index t x y) ty (.int .u8 (s[i.toNat].toNat : Int)) :=
  .intro fun w o _ ho _ => by simp [execOp, ho, hx, hy, Instr.index, asIntOf, run_underlying ht.out, h0, h1]
theorem V.nilCheck {x : Operand} {a : Addr} (hx : ev n σ x = .pointer (some a)) : V P w0 n σ h (.nilCheck x) ty (.pointer (some a)) :=
  .intro fun w o _ ho _ => by simp [execOp, ho, hx]
theorem V.load {t : TypeId} {x : Operand} {a : Addr} {v : Value} [ht : FlatT P t] (hx : ev n σ x = .pointer (some a)) (hc : cellH h a = some v) : V P w0 n σ h (.load t x) ty v :=
  .intro fun w o hw ho _ => by
    subst hw
    have hc' : w.cell? a = some v := hc
    simp [execOp, ho, hx, Instr.loadAt, Instr.sureAddr, loadVar, ht.out, hc']
theorem run_loadCellsFrom (w : World) (a : Addr) : ∀ (vs : List Value) (i : Nat) (acc : Array Value), (∀ j, j < vs.length → w.cell? (a.add (i + j)) = vs[j]?) →
    (loadCellsFrom a i vs.length acc).run P w = .ok (acc ++ vs.toArray) w := by
  intro vs
  induction vs with
  | nil => intro i acc _; simp [loadCellsFrom]
  | cons v vs ih =>
    intro i acc hc
    have h0 := hc 0 (by simp)
    simp at h0
    simp only [List.length_cons, loadCellsFrom, Sem.run_bind, run_load, h0, Result.andThen_ok]
    rw [ih (i + 1) (acc.push v) (fun j hj => by have := hc (j + 1) (by simp; omega); simpa [Nat.add_assoc, Nat.add_comm 1 j] using this)]
    simp
theorem V.loada {t sz by_ : Nat} {x : Operand} {a : Addr} {vs : List Value} [ht : AggT P t] [hi : InfoT P t sz by_] (hx : ev n σ x = .pointer (some a)) (hl : vs.length = sz) (hc : ∀ i, i < vs.length → cellH h (a.add i) = vs[i]?) :
    V P w0 n σ h (.load t x) ty (.agg vs.toArray) :=
  .intro fun w o hw ho _ => by
    subst hw
    have := run_loadCellsFrom (P := P) w a vs 0 #[] (fun j hj => by rw [Nat.zero_add]; exact hc j hj)
    rw [hl] at this
    simp [execOp, ho, hx, Instr.loadAt, Instr.sureAddr, loadVar, ht.out, run_sizeOf, loadCells, this]
/-- a slice's part -/
theorem V.cut {t e sz by_ : Nat} {x : Operand} {lo hi : Option Operand} {A : Option Addr} {l c i j : Nat} [ht : SliceT P t e] [hi' : InfoT P e sz by_] (hx : ev n σ x = .slice A l c)
    (hlo : lo.map (ev n σ) = none ∧ i = 0 ∨ ∃ k, lo.map (ev n σ) = some (.int k (i : Int))) (hhi : hi.map (ev n σ) = none ∧ j = l ∨ ∃ k, hi.map (ev n σ) = some (.int k (j : Int))) (h1 : i ≤ j) (h2 : j ≤ c) :
    V P w0 n σ h (.slice t x lo hi none) ty (.slice (if c = i then A else A.map (·.add (i * sz))) (j - i) (c - i)) :=
  .intro fun w o _ ho _ => by
    have hj : (0 : Int) ≤ (j : Int) ∧ (j : Int) ≤ (c : Int) := by omega
    have hi0 : (0 : Int) ≤ (i : Int) ∧ (i : Int) ≤ (j : Int) := by omega
    rcases hlo with ⟨hlo, rfl⟩ | ⟨k, hlo⟩ <;> rcases hhi with ⟨hhi, rfl⟩ | ⟨k', hhi⟩ <;>
      simp [execOp, ho, hx, hlo, hhi, Instr.sliceAt, run_underlying ht.out, Instr.slice, Instr.sliceBounds, Instr.sliceBound, asIntOf, run_sizeOf, hj, hi0, h1, h2]

/-! ### Stores and new blocks -/
theorem setCell_heap {w : World} {b o : Nat} {cs : Array Value} {t : TypeId} {z : Nat × Nat} {v : Value} (hb : w.heap[b]? = some (.cells cs t z)) : w.setCell ⟨b, o, none⟩ v = wld w (setB w.heap b (.cells (cs.setIfInBounds o v) t z)) w.drawn := by
  unfold World.setCell wld setB
  congr 1
  apply Array.ext_getElem?
  intro i
  simp only [Array.getElem?_modify, Array.getElem?_setIfInBounds]
  by_cases hi : b = i
  · subst hi
    have hlt := (Array.getElem?_eq_some_iff.1 hb).1
    rw [if_pos rfl, if_pos rfl, if_pos hlt, hb]; rfl
  · rw [if_neg hi, if_neg hi]
theorem D.store {t : TypeId} {x y : Operand} {b o : Nat} {v : Value} {cs : List Value} {e : TypeId} [ht : FlatT P t] {by_ : Nat} [hi : InfoT P t 1 by_] (hx : ev n σ x = .pointer (some ⟨b, o, none⟩)) (hy : ev n σ y = v) (hv : v.oneCell' = true)
    (hb : Blk h b cs e) (ho : o < cs.length) : D P w0 n σ h (.store t x y) ty (fun u h' => u = undef ∧ h' = setB h b (.cells (cs.set o v).toArray e (0, 0))) :=
  .intro fun w op hw hop _ => by
    subst hw
    refine ⟨undef, setB w.heap b (.cells (cs.set o v).toArray e (0, 0)), w.drawn, .inr ⟨?_, rfl⟩, rfl, rfl⟩
    have hc : w.cell? ⟨b, o, none⟩ = some cs[o] := by show cellH w.heap _ = _; rw [Blk.cell hb, List.getElem?_eq_getElem ho]
    have hf : w.frozen? ⟨b, o, none⟩ = false := by simp [World.frozen?, hb]
    have hcs : v.cells = #[v] := by cases v <;> simp [Value.oneCell'] at hv <;> rfl
    have hs := run_store P w ⟨b, o, none⟩ v .plain hv
    simp only [execOp, hop, hx, hy, Instr.storeAt, Instr.sureAddr, storeVar, Sem.run_bind, Sem.run_pure, Result.andThen_ok, run_sizeOf, hcs]
    simp only [List.size_toArray, List.length_cons, List.length_nil, Nat.zero_add, ne_eq, not_true_eq_false, if_false, storeCells, Addr.add, if_true, Sem.run_bind]
    rw [hs]
    simp [hc, hf, storeCells, setCell_heap hb]

/-! ### Fields, nil, least and greatest -/
/-- a field's place -/
class FieldT (P : Program) (s : TypeId) (i : Nat) (off : outParam Nat) : Prop where
  mk :: (out : ∀ (w : World) (a : Addr), (Instr.fieldAt s (.pointer (some a)) i).run P w = .ok (.pointer (some (a.add off))) w)
theorem FieldT.of {s : TypeId} {i off sz by_ : Nat} {fs : Array Field} {f : Field} (hs : P.underlying s = some (.struct fs)) (hf : fs[i]? = some f) (ho : f.offset = off) (hi : InfoT P f.type sz by_) (hz : sz ≠ 0) : FieldT P s i off :=
  ⟨fun w a => by subst ho; simp [Instr.fieldAt, run_underlying hs, hf, Instr.sureAddr, fieldPlace, run_sizeOf, hz]⟩
theorem V.faddr {t : TypeId} {i off : Nat} {x : Operand} {b o : Nat} [hf : FieldT P t i off] (hx : ev n σ x = .pointer (some ⟨b, o, none⟩)) : V P w0 n σ h (.fieldAddr t x i) ty (.pointer (some ⟨b, o + off, none⟩)) :=
  .intro fun w op _ ho _ => by simp [execOp, ho, hx, hf.out, add_lit]
theorem run_equalIn_ptr_nil {t e : TypeId} [ht : PtrT P t e] (d : Nat) (a : Option Addr) (w : World) : (Op.equalIn (d + 1) t (.pointer a) (.pointer none)).run P w = .ok a.isNone w := by
  cases a <;> simp [Op.equalIn, run_underlying ht.out]
theorem run_equal_ptr_nil {t e : TypeId} [ht : PtrT P t e] (a : Option Addr) (w : World) : (Op.equal t (.pointer a) (.pointer none)).run P w = .ok a.isNone w := run_equalIn_ptr_nil 9999 a w
theorem run_equalIn_slice_nil {t e : TypeId} [ht : SliceT P t e] (d : Nat) (A : Option Addr) (l c : Nat) (w : World) : (Op.equalIn (d + 1) t (.slice A l c) (.slice none 0 0)).run P w = .ok A.isNone w := by
  cases A <;> simp [Op.equalIn, run_underlying ht.out]
theorem run_equal_slice_nil {t e : TypeId} [ht : SliceT P t e] (A : Option Addr) (l c : Nat) (w : World) : (Op.equal t (.slice A l c) (.slice none 0 0)).run P w = .ok A.isNone w := run_equalIn_slice_nil 9999 A l c w
theorem V.eqlPnil {t t' e : TypeId} {x y : Operand} [ht : PtrT P t e] (hx : ev n σ x = .pointer none) (hy : ev n σ y = .pointer none) : V P w0 n σ h (.binOp .eql t x y t') ty (.bool true) :=
  .intro fun w o _ ho _ => by simp [execOp, ho, hx, hy, eqGuard, binOp, run_equal_ptr_nil]
theorem V.eqlPsome {t t' e : TypeId} {x y : Operand} {a : Addr} [ht : PtrT P t e] (hx : ev n σ x = .pointer (some a)) (hy : ev n σ y = .pointer none) : V P w0 n σ h (.binOp .eql t x y t') ty (.bool false) :=
  .intro fun w o _ ho _ => by simp [execOp, ho, hx, hy, eqGuard, binOp, run_equal_ptr_nil]
theorem V.neqPnil {t t' e : TypeId} {x y : Operand} [ht : PtrT P t e] (hx : ev n σ x = .pointer none) (hy : ev n σ y = .pointer none) : V P w0 n σ h (.binOp .neq t x y t') ty (.bool false) :=
  .intro fun w o _ ho _ => by simp [execOp, ho, hx, hy, eqGuard, binOp, run_equal_ptr_nil]
theorem V.neqPsome {t t' e : TypeId} {x y : Operand} {a : Addr} [ht : PtrT P t e] (hx : ev n σ x = .pointer (some a)) (hy : ev n σ y = .pointer none) : V P w0 n σ h (.binOp .neq t x y t') ty (.bool true) :=
  .intro fun w o _ ho _ => by simp [execOp, ho, hx, hy, eqGuard, binOp, run_equal_ptr_nil]
/-- a slice held against nil -/
theorem V.eqlSnil {t t' e : TypeId} {x y : Operand} {A : Option Addr} {l c : Nat} [ht : SliceT P t e] (hx : ev n σ x = .slice A l c) (hy : ev n σ y = .slice none 0 0) : V P w0 n σ h (.binOp .eql t x y t') ty (.bool A.isNone) :=
  .intro fun w o _ ho _ => by simp [execOp, ho, hx, hy, eqGuard, binOp, run_equal_slice_nil]
theorem V.neqSnil {t t' e : TypeId} {x y : Operand} {A : Option Addr} {l c : Nat} [ht : SliceT P t e] (hx : ev n σ x = .slice A l c) (hy : ev n σ y = .slice none 0 0) : V P w0 n σ h (.binOp .neq t x y t') ty (.bool (!A.isNone)) :=
  .intro fun w o _ ho _ => by simp [execOp, ho, hx, hy, eqGuard, binOp, run_equal_slice_nil]
theorem V.minI {x y : Operand} {ts : Array TypeId} {k : IntKind} {a b : Int} (hx : ev n σ x = .int k a) (hy : ev n σ y = .int k b) : V P w0 n σ h (.call { callee := .builtin .min, args := #[x, y], argTypes := ts }) ty (.int k (min a b)) :=
  .intro fun w o _ ho _ => by
    simp [execOp, ho, hx, hy, resolve, invoke, builtin, Builtin.min_, Builtin.min2]
    split <;> omega
theorem V.maxI {x y : Operand} {ts : Array TypeId} {k : IntKind} {a b : Int} (hx : ev n σ x = .int k a) (hy : ev n σ y = .int k b) : V P w0 n σ h (.call { callee := .builtin .max, args := #[x, y], argTypes := ts }) ty (.int k (max a b)) :=
  .intro fun w o _ ho _ => by
    simp [execOp, ho, hx, hy, resolve, invoke, builtin, Builtin.max_, Builtin.max2]
    split <;> omega
/-! ### New variables -/
theorem run_zero {t : TypeId} {z : Value} [hz : ZeroT P t z] (w : World) : (zeroValue t).run P w = .ok z w := by
  have hz' := hz.out
  cases hi : P.info? t with
  | none => rw [hi] at hz'; cases hz'
  | some i =>
    rw [hi] at hz'
    simp at hz'
    simp [zeroValue, typeInfo, hi, hz']
theorem D.alloc {t : TypeId} {z : Value} [hz : ZeroT P t z] : D P w0 n σ h (.alloc t) ty (fun v h' => v = .pointer (some ⟨h.size, 0, none⟩) ∧ h' = h.push (.cells z.cells t)) :=
  .intro fun w op hw ho _ => by
    subst hw
    exact ⟨_, w.heap.push (.cells z.cells t), w.drawn, .inl (by simp [execOp, ho, Instr.alloc, run_zero, newVar, newRow]; rfl), rfl, rfl⟩
theorem D.box {t : TypeId} {x : Operand} {v : Value} (hx : ev n σ x = v) : D P w0 n σ h (.box t x) ty (fun u h' => u = .pointer (some ⟨h.size, 0, none⟩) ∧ h' = h.push (.cells v.cells t)) :=
  .intro fun w op hw ho _ => by
    subst hw
    exact ⟨_, w.heap.push (.cells v.cells t), w.drawn, .inl (by simp [execOp, ho, hx, Instr.box, newVar, newRow]; rfl), rfl, rfl⟩
theorem run_storeCells (w : World) (b : Nat) (e : TypeId) : ∀ (vs : List Value) (i : Nat) (cs : List Value), (∀ v ∈ vs, v.oneCell' = true) → w.heap[b]? = some (.cells cs.toArray e (0, 0)) → i + vs.length ≤ cs.length →
    (storeCells ⟨b, 0, none⟩ vs i).run P w = .ok () (wld w (setB w.heap b (.cells (cs.take i ++ vs ++ cs.drop (i + vs.length)).toArray e (0, 0))) w.drawn) := by
  intro vs
  induction vs generalizing w with
  | nil =>
    intro i cs _ hb hl
    have : setB w.heap b (.cells (cs.take i ++ [] ++ cs.drop (i + ([] : List Value).length)).toArray e (0, 0)) = w.heap := by
      simp only [List.append_nil, List.length_nil, Nat.add_zero, List.take_append_drop]
      unfold setB
      apply Array.ext_getElem?
      intro k
      rw [Array.getElem?_setIfInBounds]
      split
      · rename_i hk; subst hk; rw [if_pos (Array.getElem?_eq_some_iff.1 hb).1, hb]
      · rfl
    rw [this]; simp [storeCells]; rfl
  | cons v vs ih =>
    intro i cs h1 hb hl
    simp only [List.length_cons] at hl
    have hv := h1 v (by simp)
    have hi : i < cs.length := by omega
    have hc : w.cell? ⟨b, i, none⟩ = some cs[i] := by show cellH w.heap _ = _; rw [Blk.cell hb, List.getElem?_eq_getElem hi]
    have hf : w.frozen? ⟨b, i, none⟩ = false := by simp [World.frozen?, hb]
    have hs := run_store P w ⟨b, i, none⟩ v .plain hv
    have ha : (⟨b, 0, none⟩ : Addr).add i = ⟨b, i, none⟩ := by rw [add_lit, Nat.zero_add]
    have hw2 := setCell_heap (v := v) (o := i) hb
    rw [List.setIfInBounds_toArray] at hw2
    have hb2 : (wld w (setB w.heap b (.cells (cs.set i v).toArray e (0, 0))) w.drawn).heap[b]? = some (.cells (cs.set i v).toArray e (0, 0)) := setB_same _ (Array.getElem?_eq_some_iff.1 hb).1
    have := ih _ (i + 1) (cs.set i v) (fun u hu => h1 u (by simp [hu])) hb2 (by simp; omega)
    simp only [storeCells, Sem.run_bind]
    rw [ha, hs]
    simp only [hc, hf, Bool.false_eq_true, if_false, Result.andThen_ok, hw2]
    rw [this]
    simp only [wld_heap, setB_setB, wld_wld]
    refine congrArg (fun l : List Value => Result.ok () (wld w (setB w.heap b (.cells l.toArray e (0, 0))) w.drawn)) ?_
    have e1 : (cs.set i v).take (i + 1) = cs.take i ++ [v] := by
      rw [List.take_add_one, List.getElem?_set_self hi]
      simp [List.take_set_of_le]
    have e2 : (cs.set i v).drop (i + 1 + vs.length) = cs.drop (i + (v :: vs).length) := by
      rw [List.drop_set_of_lt (by omega), List.length_cons]
      congr 1; omega
    rw [e1, e2]; simp
/-- a variable of several cells, stored whole -/
theorem D.storea {t sz by_ : Nat} {x y : Operand} {b : Nat} {vs cs : List Value} {e : TypeId} [hi : InfoT P t sz by_] (hx : ev n σ x = .pointer (some ⟨b, 0, none⟩)) (hy : ev n σ y = .agg vs.toArray) (hl : vs.length = sz) (h1 : ∀ v ∈ vs, v.oneCell' = true)
    (hb : Blk h b cs e) (hc : cs.length = sz) : D P w0 n σ h (.store t x y) ty (fun u h' => u = undef ∧ h' = setB h b (.cells vs.toArray e (0, 0))) :=
  .intro fun w op hw hop _ => by
    subst hw
    have hr := run_storeCells (P := P) w b e vs 0 cs h1 hb (by omega)
    simp only [List.take_zero, List.nil_append, Nat.zero_add] at hr
    rw [List.drop_of_length_le (by omega), List.append_nil] at hr
    exact ⟨undef, _, w.drawn, .inr ⟨by simp [execOp, hop, hx, hy, Instr.storeAt, Instr.sureAddr, storeVar, run_sizeOf, Value.cells, hl, hr], rfl⟩, rfl, rfl⟩
/-! ### Made rows -/
theorem D.make {t e by_ : Nat} {x y : Operand} {k k' : IntKind} {l : Nat} {z : Value} [ht : SliceT P t e] [hi : InfoT P e 1 by_] [hz : ZeroT P e z] (hx : ev n σ x = .int k (l : Int)) (hy : ev n σ y = .int k' (l : Int)) (hz1 : z.cells = #[z]) (hb : by_ * l ≤ 281474976710656) (hl : l ≤ 281474976710656) :
    D P w0 n σ h (.makeSlice t x y) ty (fun v h' => v = .slice (some ⟨h.size, 0, none⟩) l l ∧ h' = h.push (.cells (List.replicate l z).toArray e)) :=
  .intro fun w op hw ho _ => by
    subst hw
    refine ⟨_, w.heap.push (.cells (List.replicate l z).toArray e), w.drawn, .inl ?_, rfl, rfl⟩
    obtain ⟨i, hi', hh⟩ := Option.map_eq_some_iff.1 hi.out
    simp only [Prod.mk.injEq] at hh
    have hz' : i.zero = some z := by have := hz.out; rw [hi'] at this; simpa using this
    have hr := run_make (P := P) w t e i z ht.out hi' hz' k k' (l : Int) (l : Int) (by omega) (by omega) (by rw [hh.2]; exact Int.ofNat_le.2 hb) (by omega)
    rw [hh.1, hz1, Nat.mul_one, Int.toNat_natCast] at hr
    have hc : madeCells #[z] l = (List.replicate l z).toArray := by rw [← toList_madeCells_one]
    rw [hc] at hr
    simp only [execOp, ho, hx, hy, Sem.run_bind, hr, Result.andThen_ok, Sem.run_pure]
    rfl

/-! ### Rows that grow -/
theorem run_append_nil_arg {w : World} {base t ty e sz : Nat} {i : TypeInfo} (ht : P.underlying t = some (.slice e)) (hi : P.info? e = some i) {v : Value} {nn : Nat} {xs : List Value} (ho : w.ownsRow base e sz v nn xs) (A : Option Addr) (c : Nat) (hA : A = none) :
    (Builtin.append_ #[t, t] ty #[v, .slice A 0 c]).run P w = .ok v w := by
  subst hA
  rcases ho.2 with ⟨rfl, hn⟩ | ⟨g, cap, cur, rfl, _, _, hnc, _⟩
  · simp [Builtin.append_, run_underlying ht, sizeOf, typeInfo, hi, Builtin.lenOf, Builtin.firstCells]
  · simp [Builtin.append_, run_underlying ht, sizeOf, typeInfo, hi, Builtin.lenOf, Builtin.firstCells, hnc, storeCells]
/-- append(s, x..): s the call's own, x read -/
theorem D.append {t e sz by_ base nn m c : Nat} {s x : Operand} {v : Value} {xs news : List Value} {A : Option Addr} {z : Value} [ht : SliceT P t e] [hi : InfoT P e sz by_] [hz : ZeroT P e z]
    (hs : ev n σ s = v) (hx : ev n σ x = .slice A m c) (hown : Own h base e sz v nn xs) (hrow : Row h A news) (hl : news.length = m * sz) (h1 : ∀ u ∈ news, u.oneCell' = true) (hzs : z.cells.size = sz) (hsz : 0 < sz) (hby : 0 < by_) (hb : (nn + m) * by_ ≤ 140737488355328) (hbase : base ≤ h.size) :
    D P w0 n σ h (.call { callee := .builtin .append, args := #[s, x], argTypes := #[t, t] }) ty (fun v' h' => Own h' base e sz v' (nn + m) (xs ++ news) ∧ Mods (fun k => v.ownBlock = some k) h h' ∧ (v'.ownBlock = v.ownBlock ∨ v'.ownBlock = some h.size)) :=
  .intro fun w op hw hop _ => by
    subst hw
    obtain ⟨i, hi', hh⟩ := Option.map_eq_some_iff.1 hi.out
    simp only [Prod.mk.injEq] at hh
    have hz' : i.zero = some z := by have := hz.out; rw [hi'] at this; simpa using this
    have key : ∃ v' w', (Builtin.append_ #[t, t] op.type #[v, .slice A m c]).run P w = .ok v' w' ∧ w'.ownsRow base e sz v' (nn + m) (xs ++ news) ∧ w.grownBy w' v.ownBlock ∧ (v'.ownBlock = v.ownBlock ∨ v'.ownBlock = some w.heap.size) := by
      have hown' : w.ownsRow base e sz v nn xs := hown
      cases A with
      | none =>
        have hn : news = [] := by
          rcases hrow with hr | ⟨_, _, _, _, _, hA, _⟩
          · exact hr
          · cases hA
        subst hn
        have hm : m = 0 := by
          rcases Nat.eq_zero_or_pos m with h0 | h0
          · exact h0
          · have := Nat.mul_pos h0 hsz; simp at hl; omega
        subst hm
        exact ⟨v, w, run_append_nil_arg ht.out hi' hown' none c rfl, by simpa using hown', World.grownBy.refl w _, .inl rfl⟩
      | some a =>
        have hcells : ∀ j u, news[j]? = some u → w.cell? (a.add j) = some u := by
          intro j u hu
          have hj : j < news.length := (List.getElem?_eq_some_iff.1 hu).1
          obtain ⟨a', ha', hc⟩ := hrow.cell hj
          cases ha'
          rw [List.getElem?_eq_getElem hj] at hu
          cases hu
          exact hc
        have h63 : nn + m ≤ maxLen := by
          have : nn + m ≤ (nn + m) * by_ := Nat.le_mul_of_pos_right _ hby
          simp only [maxLen]; omega
        obtain ⟨v', w', h1', h2', h3', _, h5'⟩ := run_append_own_at (P := P) w base t op.type e i z sz by_ ht.out hi' hz' hh.1 hh.2 hzs hsz v nn xs hown' a m c news hl hcells h1 h63 hb hbase
        exact ⟨v', w', h1', h2', h3', h5'⟩
    obtain ⟨v', w', hr, h2, h3, h4⟩ := key
    have hw' : w' = wld w w'.heap w'.drawn := by
      cases w'; cases w
      have a1 := h3.os; have a2 := h3.tape; have a3 := h3.output
      simp only at a1 a2 a3
      subst a1 a2 a3; rfl
    refine ⟨v', w'.heap, w'.drawn, .inl ?_, h2, ⟨h3.size, fun k hk hS => h3.block k hk (fun e => hS e.symm)⟩, h4⟩
    simp only [execOp, hop, resolve, invoke, builtin, Sem.run_bind, Sem.run_pure, Result.andThen_ok, List.map_toArray, List.map_cons, List.map_nil, hs, hx, hr]
    rw [← hw']
/-- []T{} -/
theorem D.bslice0 {t e sz by_ : Nat} [ht : SliceT P t e] [hi : InfoT P e sz by_] :
    D P w0 n σ h (.buildSlice t 0 #[]) ty (fun v h' => v = .slice (some ⟨h.size, 0, none⟩) 0 0 ∧ h' = h.push (.cells #[] e)) :=
  .intro fun w op hw hop _ => by
    subst hw
    refine ⟨_, w.heap.push (.cells #[] e), w.drawn, .inl ?_, rfl, rfl⟩
    have e0 : Array.map (fun _ => (default : Value)) (Array.range 0) = #[] := by apply Array.ext <;> simp
    simp [execOp, hop, Instr.buildSlice, run_underlying ht.out, run_sizeOf, Instr.fill, newRow]
    rw [e0]; rfl
/-- []T{x}, x of one cell -/
theorem D.bslice1 {t e by_ : Nat} {x : Operand} {v z : Value} [ht : SliceT P t e] [hi : InfoT P e 1 by_] [hz : ZeroT P e z] (hx : ev n σ x = v) (hv : v.oneCell' = true) (hz1 : z.cells = #[z]) :
    D P w0 n σ h (.buildSlice t 1 #[(0, x)]) ty (fun u h' => u = .slice (some ⟨h.size, 0, none⟩) 1 1 ∧ h' = h.push (.cells [v].toArray e)) :=
  .intro fun w op hw hop _ => by
    subst hw
    have hcs : v.cells = #[v] := by cases v <;> simp [Value.oneCell'] at hv <;> rfl
    refine ⟨_, w.heap.push (.cells [v].toArray e), w.drawn, .inl ?_, rfl, rfl⟩
    have e1 : Array.range 1 = #[0] := by apply Array.ext <;> simp
    simp [execOp, hop, hx, Instr.buildSlice, run_underlying ht.out, run_sizeOf, run_zero, hz1, Instr.fill, hcs, newRow]
    rw [e1]
    have e2 : (Array.map (fun x => [z][x % 1]?.getD default) #[0]).setIfInBounds 0 v = #[v] := by simp
    rw [e2]; rfl
theorem own_empty {hp : Heap} {base e sz : Nat} (hb : base ≤ hp.size) : Own (hp.push (.cells #[] e)) base e sz (.slice (some ⟨hp.size, 0, none⟩) 0 0) 0 [] :=
  ⟨by simp, .inr ⟨hp.size, 0, #[], rfl, hb, push_new hp _, Nat.le_refl _, by simp, by simp, by simp⟩⟩
theorem own_made {hp : Heap} {base e l : Nat} {cs : List Value} (hb : base ≤ hp.size) (hl : cs.length = l) (hm : l ≤ maxLen) : Own (hp.push (.cells cs.toArray e)) base e 1 (.slice (some ⟨hp.size, 0, none⟩) l l) l cs :=
  ⟨by simp [hl], .inr ⟨hp.size, l, cs.toArray, rfl, hb, push_new hp _, Nat.le_refl _, hm, by simp [hl], by simp [← hl]⟩⟩
end
end Go.Proofs.YtoggdigclbcndaaDoor.E
