/-
  Walking by itself as far as the operations are plain: 'run' has its tactic as a default argument.
-/
import Derived.Test.YtoggdigclbcndaaDoorUns
import Derived.Test.YtoggdigclbcndaaDoorStr
import Derived.Test.YtoggdigclbcndaaDoorMix
set_option linter.unusedVariables false
set_option linter.unusedSimpArgs false
namespace Go.Proofs.YtoggdigclbcndaaDoor.E
open Go

/-- a value that is seen -/
inductive Is : Value → Value → Prop where
  | int (k : IntKind) (a : Int) : Is (.int k a) (.int k a)
  | slice (A : Option Addr) (l c : Nat) : Is (.slice A l c) (.slice A l c)
  | ptr (a : Option Addr) : Is (.pointer a) (.pointer a)
  | bool (b : Bool) : Is (.bool b) (.bool b)
  | str (s : ByteArray) : Is (.string s) (.string s)
  | agg (cs : Array Value) : Is (.agg cs) (.agg cs)
  | tuple (cs : Array Value) : Is (.tuple cs) (.tuple cs)
  | map (r : Option Nat) : Is (.map r) (.map r)
  | func (f : Fn) (a b : Array Value) : Is (.func f a b) (.func f a b)
  | nilFunc : Is .nilFunc .nilFunc
  | iface (t : TypeId) (v : Value) : Is (.iface t v) (.iface t v)
  | nilIface : Is .nilIface .nilIface
theorem Is.eq {u v : Value} (h : Is u v) : u = v := by cases h <;> rfl

/-- Y is left to show X -/
structure St (X Y : Prop) : Prop where
  mk :: (f : Y → X)
section
variable {P : Program} {w0 : World} {n : Nat} {σ : Slots} {h : Heap} {ty : TypeId} {Φ : Post} {ops : Array Oper} {m : Md} {Y : Prop}
theorem St.val {d : Nat} {op : Op} {pos : String} {after : Array Edge} {rest : List Oper} {v : Value}
    (hv : V P w0 n σ h op ty v) (s : St (L P w0 n ops m Φ rest (upd σ d v) h) Y) : St (L P w0 n ops m Φ (⟨some d, op, ty, pos, after, none⟩ :: rest) σ h) Y := ⟨fun y => .val hv (s.f y)⟩
theorem St.nil (s : St (Φ .normal σ h) Y) : St (L P w0 n ops m Φ [] σ h) Y := ⟨fun y => .nil (s.f y)⟩
theorem St.seq {x y : Code} (s : St (C P w0 n x (Th (fun σ h => C P w0 n y Φ σ h) Φ) σ h) Y) : St (C P w0 n (.seq x y) Φ σ h) Y := ⟨fun y => .seq (s.f y)⟩
theorem St.region {id : Nat} {l : List Oper} (s : St (L P w0 n l.toArray .seq Φ l σ h) Y) : St (C P w0 n (.region id l.toArray false) Φ σ h) Y := ⟨fun y => .region (s.f y)⟩
theorem St.block {id : Nat} {c : Code} (s : St (C P w0 n c (InB id Φ) σ h) Y) : St (C P w0 n (.block id c) Φ σ h) Y := ⟨fun y => .block (s.f y)⟩
theorem St.skip (s : St (Φ .normal σ h) Y) : St (C P w0 n .skip Φ σ h) Y := ⟨fun y => .skip (s.f y)⟩
theorem St.ret (s : St (Φ .ret σ h) Y) : St (C P w0 n .ret Φ σ h) Y := ⟨fun y => .ret (s.f y)⟩
theorem St.exit {id : Nat} (s : St (Φ (.exit id) σ h) Y) : St (C P w0 n (.exit id) Φ σ h) Y := ⟨fun y => .exit (s.f y)⟩
theorem St.thn {A : Slots → Heap → Prop} (s : St (A σ h) Y) : St (Th A Φ .normal σ h) Y := ⟨fun y => .nn (s.f y)⟩
theorem St.thr {A : Slots → Heap → Prop} (s : St (Φ .ret σ h) Y) : St (Th A Φ .ret σ h) Y := ⟨fun y => .r (s.f y)⟩
theorem St.the {A : Slots → Heap → Prop} {id : Nat} (s : St (Φ (.exit id) σ h) Y) : St (Th A Φ (.exit id) σ h) Y := ⟨fun y => .e (s.f y)⟩
theorem St.inn {id : Nat} (s : St (Φ .normal σ h) Y) : St (InB id Φ .normal σ h) Y := ⟨fun y => .nn (s.f y)⟩
theorem St.inr {id : Nat} (s : St (Φ .ret σ h) Y) : St (InB id Φ .ret σ h) Y := ⟨fun y => .r (s.f y)⟩
theorem St.ine {id : Nat} (s : St (Φ .normal σ h) Y) : St (InB id Φ (.exit id) σ h) Y := ⟨fun y => .e (s.f y)⟩
theorem St.ino {id id' : Nat} (hne : id' ≠ id) (s : St (Φ (.exit id') σ h) Y) : St (InB id Φ (.exit id') σ h) Y := ⟨fun y => .o hne (s.f y)⟩
theorem St.end_ (X : Prop) : St X X := ⟨id⟩

/-! ### Plain operations, as they are met -/
theorem V.mv {x : Operand} {v : Value} (hx : Is (ev n σ x) v) : V P w0 n σ h (.move x) ty v := .move hx.eq
theorem V.as_ {x : Operand} {v : Value} (hx : Is (ev n σ x) v) : V P w0 n σ h (.assign x) ty v := .assign hx.eq
theorem V.pickT {c x y : Operand} {v : Value} (hc : ev n σ c = .bool true) (hx : Is (ev n σ x) v) : V P w0 n σ h (.pick c x y) ty v := .pick hc (by simpa using hx.eq)
theorem V.pickF {c x y : Operand} {v : Value} (hc : ev n σ c = .bool false) (hx : Is (ev n σ y) v) : V P w0 n σ h (.pick c x y) ty v := .pick hc (by simpa using hx.eq)
theorem V.exT {x : Operand} {i : Nat} {l : List Value} {v : Value} (hx : ev n σ x = .tuple l.toArray) (hv : Is (l.getD i undef) v) (hl : i < l.length) : V P w0 n σ h (.extract x i) ty v :=
  .extract hx (by have := hv.eq; simp [List.getD_eq_getElem?_getD, List.getElem?_eq_getElem hl] at this; simp [List.getElem?_eq_getElem hl, this])
open Go.IntWalk (i64_in)
theorem V.addI {t t' : TypeId} {x y : Operand} {a b : Int} (hx : ev n σ x = .int .i64 a) (hy : ev n σ y = .int .i64 b) (hr : -9223372036854775808 ≤ a + b ∧ a + b ≤ 9223372036854775807) : V P w0 n σ h (.binOp .add t x y t') ty (.int .i64 (a + b)) := by
  have := V.add (P := P) (w0 := w0) (h := h) (ty := ty) (t := t) (t' := t') hx hy; rwa [i64_in _ hr] at this
theorem V.subI {t t' : TypeId} {x y : Operand} {a b : Int} (hx : ev n σ x = .int .i64 a) (hy : ev n σ y = .int .i64 b) (hr : -9223372036854775808 ≤ a - b ∧ a - b ≤ 9223372036854775807) : V P w0 n σ h (.binOp .sub t x y t') ty (.int .i64 (a - b)) := by
  have := V.sub (P := P) (w0 := w0) (h := h) (ty := ty) (t := t) (t' := t') hx hy; rwa [i64_in _ hr] at this
theorem V.mulI {t t' : TypeId} {x y : Operand} {a b : Int} (hx : ev n σ x = .int .i64 a) (hy : ev n σ y = .int .i64 b) (hr : -9223372036854775808 ≤ a * b ∧ a * b ≤ 9223372036854775807) : V P w0 n σ h (.binOp .mul t x y t') ty (.int .i64 (a * b)) := by
  have := V.mul (P := P) (w0 := w0) (h := h) (ty := ty) (t := t) (t' := t') hx hy; rwa [i64_in _ hr] at this
theorem V.quoI {t t' : TypeId} {x y : Operand} {a b : Int} (hx : ev n σ x = .int .i64 a) (hy : ev n σ y = .int .i64 b) (hr : 0 ≤ a ∧ a ≤ 9223372036854775807 ∧ 1 ≤ b) : V P w0 n σ h (.binOp .quo t x y t') ty (.int .i64 (a / b)) := by
  have := V.quo (P := P) (w0 := w0) (h := h) (ty := ty) (t := t) (t' := t') hx hy (by omega); rwa [Go.IntWalk.i64_quo _ _ hr] at this
theorem V.remI {t t' : TypeId} {x y : Operand} {k : IntKind} {a b : Int} (hx : ev n σ x = .int k a) (hy : ev n σ y = .int k b) (hr : 0 ≤ a ∧ 1 ≤ b) : V P w0 n σ h (.binOp .rem t x y t') ty (.int k (a % b)) := by
  have := V.rem (P := P) (w0 := w0) (h := h) (ty := ty) (t := t) (t' := t') hx hy (by omega); rwa [Go.IntWalk.rem_in _ _ hr.1] at this
/-! natural numbers kept as int -/
theorem ofInt_nat (n : Nat) (k : Nat) (hn : n < 2 ^ k) : (BitVec.ofInt k (n : Int)).toNat = n := by
  rw [BitVec.toNat_ofInt]
  have : ((n : Int) % ((2 ^ k : Nat) : Int)) = n := by
    rw [← Int.natCast_emod, Nat.mod_eq_of_lt hn]
  rw [this]; rfl
theorem bits_and (a b : Nat) (ha : a < 2 ^ 63) (hb : b < 2 ^ 63) : bitsOf .and .i64 (a : Int) (b : Int) = ((a &&& b : Nat) : Int) := by
  show IntKind.i64.wrap ((BitVec.ofInt 64 (a : Int) &&& BitVec.ofInt 64 (b : Int)).toNat : Int) = _
  rw [BitVec.toNat_and, ofInt_nat a 64 (by omega), ofInt_nat b 64 (by omega)]
  have : a &&& b ≤ a := Nat.and_le_left
  exact i64_in _ (by omega)
theorem bits_or (a b : Nat) (ha : a < 2 ^ 63) (hb : b < 2 ^ 63) : bitsOf .or .i64 (a : Int) (b : Int) = ((a ||| b : Nat) : Int) := by
  show IntKind.i64.wrap ((BitVec.ofInt 64 (a : Int) ||| BitVec.ofInt 64 (b : Int)).toNat : Int) = _
  rw [BitVec.toNat_or, ofInt_nat a 64 (by omega), ofInt_nat b 64 (by omega)]
  have := Nat.or_lt_two_pow ha hb
  exact i64_in _ (by omega)
theorem bits_xor (a b : Nat) (ha : a < 2 ^ 63) (hb : b < 2 ^ 63) : bitsOf .xor .i64 (a : Int) (b : Int) = ((a ^^^ b : Nat) : Int) := by
  show IntKind.i64.wrap ((BitVec.ofInt 64 (a : Int) ^^^ BitVec.ofInt 64 (b : Int)).toNat : Int) = _
  rw [BitVec.toNat_xor, ofInt_nat a 64 (by omega), ofInt_nat b 64 (by omega)]
  have := Nat.xor_lt_two_pow ha hb
  exact i64_in _ (by omega)
theorem V.andNB {t t' : TypeId} {x y : Operand} {a b : Nat} (hx : ev n σ x = .int .u8 (a : Int)) (hy : ev n σ y = .int .u8 (b : Int)) (hr : a < 256 ∧ b < 256) : V P w0 n σ h (.binOp .and t x y t') ty (.int .u8 ((a &&& b : Nat) : Int)) := by
  have := V.and (P := P) (w0 := w0) (h := h) (ty := ty) (t := t) (t' := t') hx hy
  have e : bitsOf .and .u8 (a : Int) (b : Int) = ((a &&& b : Nat) : Int) := by
    show IntKind.u8.wrap ((BitVec.ofInt 8 (a : Int) &&& BitVec.ofInt 8 (b : Int)).toNat : Int) = _
    rw [BitVec.toNat_and, ofInt_nat a 8 (by omega), ofInt_nat b 8 (by omega)]
    have : a &&& b ≤ a := Nat.and_le_left
    exact Go.IntWalk.u8_in _ (by omega)
  rwa [e] at this
theorem V.andN {t t' : TypeId} {x y : Operand} {a b : Nat} (hx : ev n σ x = .int .i64 (a : Int)) (hy : ev n σ y = .int .i64 (b : Int)) (hr : a < 9223372036854775808 ∧ b < 9223372036854775808) : V P w0 n σ h (.binOp .and t x y t') ty (.int .i64 ((a &&& b : Nat) : Int)) := by
  have := V.and (P := P) (w0 := w0) (h := h) (ty := ty) (t := t) (t' := t') hx hy; rwa [bits_and _ _ hr.1 hr.2] at this
theorem V.orN {t t' : TypeId} {x y : Operand} {a b : Nat} (hx : ev n σ x = .int .i64 (a : Int)) (hy : ev n σ y = .int .i64 (b : Int)) (hr : a < 9223372036854775808 ∧ b < 9223372036854775808) : V P w0 n σ h (.binOp .or t x y t') ty (.int .i64 ((a ||| b : Nat) : Int)) := by
  have := V.or (P := P) (w0 := w0) (h := h) (ty := ty) (t := t) (t' := t') hx hy; rwa [bits_or _ _ hr.1 hr.2] at this
theorem V.xorN {t t' : TypeId} {x y : Operand} {a b : Nat} (hx : ev n σ x = .int .i64 (a : Int)) (hy : ev n σ y = .int .i64 (b : Int)) (hr : a < 9223372036854775808 ∧ b < 9223372036854775808) : V P w0 n σ h (.binOp .xor t x y t') ty (.int .i64 ((a ^^^ b : Nat) : Int)) := by
  have := V.xor (P := P) (w0 := w0) (h := h) (ty := ty) (t := t) (t' := t') hx hy; rwa [bits_xor _ _ hr.1 hr.2] at this
theorem V.shlN {t t' : TypeId} {x y : Operand} {k' : IntKind} {a c : Nat} (hx : ev n σ x = .int .i64 (a : Int)) (hy : ev n σ y = .int k' (c : Int)) (hc : c ≤ 64) (hr : a * 2 ^ c < 9223372036854775808) : V P w0 n σ h (.binOp .shl t x y t') ty (.int .i64 ((a <<< c : Nat) : Int)) := by
  have := V.shl (P := P) (w0 := w0) (h := h) (ty := ty) (t := t) (t' := t') hx hy (by omega)
  have hm : min (c : Int).toNat IntKind.i64.bits = c := by show min (c : Int).toNat 64 = c; omega
  rw [hm] at this
  have e : (a : Int) * 2 ^ c = ((a <<< c : Nat) : Int) := by rw [Nat.shiftLeft_eq]; push_cast; rfl
  rw [e] at this
  rwa [i64_in _ (by rw [Nat.shiftLeft_eq]; omega)] at this
theorem V.shrN {t t' : TypeId} {x y : Operand} {k k' : IntKind} {a c : Nat} (hx : ev n σ x = .int k (a : Int)) (hy : ev n σ y = .int k' (c : Int)) (hc : c ≤ k.bits) : V P w0 n σ h (.binOp .shr t x y t') ty (.int k ((a >>> c : Nat) : Int)) := by
  have := V.shr (P := P) (w0 := w0) (h := h) (ty := ty) (t := t) (t' := t') hx hy (by omega)
  have hm : min (c : Int).toNat k.bits = c := by omega
  rw [hm] at this
  have e : (a : Int).fdiv (2 ^ c) = ((a >>> c : Nat) : Int) := by
    rw [Nat.shiftRight_eq_div_pow, Int.fdiv_eq_ediv_of_nonneg _ (by exact_mod_cast Nat.zero_le (2 ^ c))]
    push_cast; rfl
  rwa [e] at this
/-! whole numbers of eight bits -/
theorem int_eq {k : IntKind} {a b : Int} (h : a = b) : Value.int k a = .int k b := by rw [h]
/-! tests that are decided -/
theorem V.lssT {t t' : TypeId} {x y : Operand} {k : IntKind} {a b : Int} (hx : ev n σ x = .int k a) (hy : ev n σ y = .int k b) (hd : a < b) : V P w0 n σ h (.binOp .lss t x y t') ty (.bool true) := by
  have := V.lss (P := P) (w0 := w0) (h := h) (ty := ty) (t := t) (t' := t') hx hy; rwa [decide_eq_true hd] at this
theorem V.lssF {t t' : TypeId} {x y : Operand} {k : IntKind} {a b : Int} (hx : ev n σ x = .int k a) (hy : ev n σ y = .int k b) (hd : b ≤ a) : V P w0 n σ h (.binOp .lss t x y t') ty (.bool false) := by
  have := V.lss (P := P) (w0 := w0) (h := h) (ty := ty) (t := t) (t' := t') hx hy; rwa [decide_eq_false (by omega)] at this
theorem V.gtrT {t t' : TypeId} {x y : Operand} {k : IntKind} {a b : Int} (hx : ev n σ x = .int k a) (hy : ev n σ y = .int k b) (hd : b < a) : V P w0 n σ h (.binOp .gtr t x y t') ty (.bool true) := by
  have := V.gtr (P := P) (w0 := w0) (h := h) (ty := ty) (t := t) (t' := t') hx hy; rwa [decide_eq_true hd] at this
theorem V.gtrF {t t' : TypeId} {x y : Operand} {k : IntKind} {a b : Int} (hx : ev n σ x = .int k a) (hy : ev n σ y = .int k b) (hd : a ≤ b) : V P w0 n σ h (.binOp .gtr t x y t') ty (.bool false) := by
  have := V.gtr (P := P) (w0 := w0) (h := h) (ty := ty) (t := t) (t' := t') hx hy; rwa [decide_eq_false (by omega)] at this
theorem V.leqT {t t' : TypeId} {x y : Operand} {k : IntKind} {a b : Int} (hx : ev n σ x = .int k a) (hy : ev n σ y = .int k b) (hd : a ≤ b) : V P w0 n σ h (.binOp .leq t x y t') ty (.bool true) := by
  have := V.leq (P := P) (w0 := w0) (h := h) (ty := ty) (t := t) (t' := t') hx hy; rwa [decide_eq_true hd] at this
theorem V.leqF {t t' : TypeId} {x y : Operand} {k : IntKind} {a b : Int} (hx : ev n σ x = .int k a) (hy : ev n σ y = .int k b) (hd : b < a) : V P w0 n σ h (.binOp .leq t x y t') ty (.bool false) := by
  have := V.leq (P := P) (w0 := w0) (h := h) (ty := ty) (t := t) (t' := t') hx hy; rwa [decide_eq_false (by omega)] at this
theorem V.geqT {t t' : TypeId} {x y : Operand} {k : IntKind} {a b : Int} (hx : ev n σ x = .int k a) (hy : ev n σ y = .int k b) (hd : b ≤ a) : V P w0 n σ h (.binOp .geq t x y t') ty (.bool true) := by
  have := V.geq (P := P) (w0 := w0) (h := h) (ty := ty) (t := t) (t' := t') hx hy; rwa [decide_eq_true hd] at this
theorem V.geqF {t t' : TypeId} {x y : Operand} {k : IntKind} {a b : Int} (hx : ev n σ x = .int k a) (hy : ev n σ y = .int k b) (hd : a < b) : V P w0 n σ h (.binOp .geq t x y t') ty (.bool false) := by
  have := V.geq (P := P) (w0 := w0) (h := h) (ty := ty) (t := t) (t' := t') hx hy; rwa [decide_eq_false (by omega)] at this
theorem V.eqlT {t t' : TypeId} {x y : Operand} {k : IntKind} {a b : Int} (hx : ev n σ x = .int k a) (hy : ev n σ y = .int k b) (hd : a = b) : V P w0 n σ h (.binOp .eql t x y t') ty (.bool true) := by
  have := V.eql (P := P) (w0 := w0) (h := h) (ty := ty) (t := t) (t' := t') hx hy; rwa [decide_eq_true hd] at this
theorem V.eqlF {t t' : TypeId} {x y : Operand} {k : IntKind} {a b : Int} (hx : ev n σ x = .int k a) (hy : ev n σ y = .int k b) (hd : a ≠ b) : V P w0 n σ h (.binOp .eql t x y t') ty (.bool false) := by
  have := V.eql (P := P) (w0 := w0) (h := h) (ty := ty) (t := t) (t' := t') hx hy; rwa [decide_eq_false hd] at this
theorem V.neqF {t t' : TypeId} {x y : Operand} {k : IntKind} {a b : Int} (hx : ev n σ x = .int k a) (hy : ev n σ y = .int k b) (hd : a = b) : V P w0 n σ h (.binOp .neq t x y t') ty (.bool false) := by
  have := V.neq (P := P) (w0 := w0) (h := h) (ty := ty) (t := t) (t' := t') hx hy; rwa [decide_eq_false (by omega)] at this
theorem V.neqT {t t' : TypeId} {x y : Operand} {k : IntKind} {a b : Int} (hx : ev n σ x = .int k a) (hy : ev n σ y = .int k b) (hd : a ≠ b) : V P w0 n σ h (.binOp .neq t x y t') ty (.bool true) := by
  have := V.neq (P := P) (w0 := w0) (h := h) (ty := ty) (t := t) (t' := t') hx hy; rwa [decide_eq_true hd] at this
theorem V.notT {t : TypeId} {x : Operand} (hx : ev n σ x = .bool true) : V P w0 n σ h (.unOp .not t x) ty (.bool false) := V.not hx
theorem V.notF {t : TypeId} {x : Operand} (hx : ev n σ x = .bool false) : V P w0 n σ h (.unOp .not t x) ty (.bool true) := V.not hx
theorem St.condT {c : Operand} {x y : Code} (hc : ev n σ c = .bool true) (s : St (C P w0 n x Φ σ h) Y) : St (C P w0 n (.cond c x y) Φ σ h) Y := ⟨fun y => .condT hc rfl (s.f y)⟩
theorem St.condF {c : Operand} {x y : Code} (hc : ev n σ c = .bool false) (s : St (C P w0 n y Φ σ h) Y) : St (C P w0 n (.cond c x y) Φ σ h) Y := ⟨fun y => .condF hc rfl (s.f y)⟩
/-- a guard says yes -/
theorem St.gyes {d : Nat} {op : Op} {pos : String} {after : Array Edge} {rest : List Oper} {v : Value} {j dj : Nat} {b : Bool}
    (hd : (ops[j]?).bind (·.dst) = some dj) (hs : ev n σ (.tmp dj) = .bool b) (hv : V P w0 n σ h op ty v)
    (s : St (L P w0 n ops m Φ rest (upd σ d v) h) Y) : St (L P w0 n ops m Φ (⟨some d, op, ty, pos, after, some (j, b)⟩ :: rest) σ h) Y := ⟨fun y => .gyes hd hs hv (s.f y)⟩
theorem St.gnoT {d : Nat} {op : Op} {pos : String} {after : Array Edge} {rest : List Oper} {j dj : Nat}
    (hd : (ops[j]?).bind (·.dst) = some dj) (hs : ev n σ (.tmp dj) = .bool true)
    (s : St (L P w0 n ops m Φ rest (upd σ d undef) h) Y) : St (L P w0 n ops m Φ (⟨some d, op, ty, pos, after, some (j, false)⟩ :: rest) σ h) Y := ⟨fun y => .gno hd hs (by decide) (s.f y)⟩
theorem St.gnoF {d : Nat} {op : Op} {pos : String} {after : Array Edge} {rest : List Oper} {j dj : Nat}
    (hd : (ops[j]?).bind (·.dst) = some dj) (hs : ev n σ (.tmp dj) = .bool false)
    (s : St (L P w0 n ops m Φ rest (upd σ d undef) h) Y) : St (L P w0 n ops m Φ (⟨some d, op, ty, pos, after, some (j, true)⟩ :: rest) σ h) Y := ⟨fun y => .gno hd hs (by decide) (s.f y)⟩
theorem St.gun {d : Nat} {op : Op} {pos : String} {after : Array Edge} {rest : List Oper} {j dj : Nat} {b : Bool}
    (hd : (ops[j]?).bind (·.dst) = some dj) (hs : ev n σ (.tmp dj) = undef)
    (s : St (L P w0 n ops m Φ rest (upd σ d undef) h) Y) : St (L P w0 n ops m Φ (⟨some d, op, ty, pos, after, some (j, b)⟩ :: rest) σ h) Y := ⟨fun y => .gundef hd hs (s.f y)⟩
/-! ### The end -/
theorem ret1 {fn : Func} {t : Nat} {S : Value → Heap → Prop} {v : Value} (hr : fn.results = #[.tmp t]) (hv : Is (ev n σ (.tmp t)) v) (hS : S v h) : leave P n fn S .ret σ h := leave1 hr hv.eq hS
theorem ret2 {fn : Func} {t u : Nat} {S : Value → Heap → Prop} {v v' : Value} (hr : fn.results = #[.tmp t, .tmp u]) (hv : Is (ev n σ (.tmp t)) v) (hv' : Is (ev n σ (.tmp u)) v') (hS : S (.tuple #[v, v']) h) : leave P n fn S .ret σ h := leave2 hr hv.eq hv'.eq hS
end

/-! in a region of any order with a chain -/
section
variable {P : Program} {w0 : World} {n : Nat} {σ : Slots} {h : Heap} {ty : TypeId} {Φ : Post} {ops : Array Oper} {G : Heap → Prop} {wr : Nat → Bool} {lst : Bool} {k : Nat} {Y : Prop}
theorem St.mval {d : Nat} {op : Op} {pos : String} {after : Array Edge} {rest : List Oper} {v : Value}
    (hv : ∀ h, G h → V P w0 n σ h op ty v) (s : St (M P w0 n ops G wr lst Φ rest (k + 1) (upd σ d v) h) Y) : St (M P w0 n ops G wr lst Φ (⟨some d, op, ty, pos, after, none⟩ :: rest) k σ h) Y := ⟨fun y => .op hv (s.f y)⟩
theorem St.mnil (s : St (Φ .normal σ h) Y) : St (M P w0 n ops G wr lst Φ [] k σ h) Y := ⟨fun y => .nil (s.f y)⟩
theorem St.mgyes {d : Nat} {op : Op} {pos : String} {after : Array Edge} {rest : List Oper} {v : Value} {j dj : Nat} {b : Bool}
    (hd : (ops[j]?).bind (·.dst) = some dj) (hs : ev n σ (.tmp dj) = .bool b) (hv : ∀ h, G h → V P w0 n σ h op ty v)
    (s : St (M P w0 n ops G wr lst Φ rest (k + 1) (upd σ d v) h) Y) : St (M P w0 n ops G wr lst Φ (⟨some d, op, ty, pos, after, some (j, b)⟩ :: rest) k σ h) Y := ⟨fun y => .gyes hd hs hv (s.f y)⟩
theorem St.mgnoT {d : Nat} {op : Op} {pos : String} {after : Array Edge} {rest : List Oper} {j dj : Nat}
    (hd : (ops[j]?).bind (·.dst) = some dj) (hs : ev n σ (.tmp dj) = .bool true)
    (s : St (M P w0 n ops G wr lst Φ rest (k + 1) (upd σ d undef) h) Y) : St (M P w0 n ops G wr lst Φ (⟨some d, op, ty, pos, after, some (j, false)⟩ :: rest) k σ h) Y := ⟨fun y => .gno hd hs (by decide) (s.f y)⟩
theorem St.mgnoF {d : Nat} {op : Op} {pos : String} {after : Array Edge} {rest : List Oper} {j dj : Nat}
    (hd : (ops[j]?).bind (·.dst) = some dj) (hs : ev n σ (.tmp dj) = .bool false)
    (s : St (M P w0 n ops G wr lst Φ rest (k + 1) (upd σ d undef) h) Y) : St (M P w0 n ops G wr lst Φ (⟨some d, op, ty, pos, after, some (j, true)⟩ :: rest) k σ h) Y := ⟨fun y => .gno hd hs (by decide) (s.f y)⟩
theorem St.mgun {d : Nat} {op : Op} {pos : String} {after : Array Edge} {rest : List Oper} {j dj : Nat} {b : Bool}
    (hd : (ops[j]?).bind (·.dst) = some dj) (hs : ev n σ (.tmp dj) = undef)
    (s : St (M P w0 n ops G wr lst Φ rest (k + 1) (upd σ d undef) h) Y) : St (M P w0 n ops G wr lst Φ (⟨some d, op, ty, pos, after, some (j, b)⟩ :: rest) k σ h) Y := ⟨fun y => .gundef hd hs (s.f y)⟩
end
/-- as far as it goes by itself -/
theorem run {X Y : Prop} (k : Y) (s : St X Y := by
    (repeat (first
      | (apply St.val; first
          | exact V.mv (by constructor)
          | exact V.as_ (by constructor)
          | exact V.addI rfl rfl (by omega)
          | exact V.lssT rfl rfl (by omega)
          | exact V.lssF rfl rfl (by omega)
          | exact V.lss rfl rfl
          | exact V.len rfl
          | exact V.exT rfl (by constructor) (by simp)
          | exact V.eqlT rfl rfl (by omega)
          | exact V.eqlF rfl rfl (by omega)
          | exact V.eql rfl rfl
          | exact V.neqT rfl rfl (by omega)
          | exact V.neqF rfl rfl (by omega)
          | exact V.neq rfl rfl
          | exact V.leqT rfl rfl (by omega)
          | exact V.leqF rfl rfl (by omega)
          | exact V.leq rfl rfl
          | exact V.gtrT rfl rfl (by omega)
          | exact V.gtrF rfl rfl (by omega)
          | exact V.gtr rfl rfl
          | exact V.geqT rfl rfl (by omega)
          | exact V.geqF rfl rfl (by omega)
          | exact V.geq rfl rfl
          | exact V.pickT rfl (by constructor)
          | exact V.pickF rfl (by constructor)
          | exact V.subI rfl rfl (by omega)
          | exact V.mulI rfl rfl (by omega)
          | exact V.quoI rfl rfl (by omega)
          | exact V.remI rfl rfl (by omega)
          | exact V.xorB rfl rfl
          | exact V.xorBc rfl
          | exact V.xorW rfl rfl
          | exact V.xorWc rfl
          | exact V.xorQ rfl rfl
          | exact V.xorQc rfl
          | exact V.addW rfl rfl
          | exact V.addWc rfl
          | exact V.mulWc rfl
          | exact V.mulW rfl rfl
          | exact V.addQ rfl rfl
          | exact V.addQc rfl
          | exact V.mulQc rfl
          | exact V.andW rfl rfl
          | exact V.andWc rfl
          | exact V.andQ rfl rfl
          | exact V.andQc rfl
          | exact V.orW rfl rfl
          | exact V.orQ rfl rfl
          | exact V.shlW rfl (by decide)
          | exact V.shrW rfl (by decide)
          | exact V.shlQ rfl (by decide)
          | exact V.shrQ rfl (by decide)
          | exact V.convBI rfl
          | exact V.convWInt rfl
          | exact V.convBW rfl
          | exact V.convBQ rfl
          | exact V.convWQ rfl
          | exact V.convQW rfl
          | exact V.convWB rfl
          | exact V.convQB rfl
          | exact V.convI rfl (by omega)
          | exact V.convBIn rfl (by omega)
          | exact V.convQI rfl (by omega)
          | exact V.convWI rfl (by omega)
          | exact V.convB rfl
          | exact V.convW rfl
          | exact V.convQ rfl
          | exact V.lenS rfl
          | exact V.eqlST rfl rfl (by first | rfl | assumption | decide)
          | exact V.eqlSF rfl rfl (by first | assumption | decide)
          | exact V.neqSF rfl rfl (by first | rfl | assumption | decide)
          | exact V.neqST rfl rfl (by first | assumption | decide)
          | exact V.eqlS rfl rfl
          | exact V.neqS rfl rfl
          | exact V.lssS rfl rfl
          | exact V.idxS rfl rfl (by omega)
          | exact V.catS rfl rfl (by omega)
          | exact V.eqlB rfl rfl
          | exact V.neqB rfl rfl
          | exact V.neqInil rfl
          | exact V.neqIsome rfl
          | exact V.eqlInil rfl
          | exact V.eqlIsome rfl
          | exact V.lens rfl
          | exact V.nilCheck rfl
          | exact V.notT rfl
          | exact V.notF rfl
          | exact V.not rfl
          | exact V.faddr rfl
          | exact V.eqlPnil rfl rfl
          | exact V.eqlPsome rfl rfl
          | exact V.neqPnil rfl rfl
          | exact V.neqPsome rfl rfl
          | exact V.minI rfl rfl
          | exact V.maxI rfl rfl)
      | apply St.nil
      | apply St.thn
      | apply St.seq
      | apply St.region
      | (apply St.condT; (first | rfl))
      | (apply St.condF; (first | rfl))
      | apply St.block
      | apply St.ret
      | apply St.thr
      | apply St.inr
      | apply St.exit
      | apply St.the
      | apply St.ine
      | (apply St.ino; (first | decide))
      | apply St.skip
      | apply St.inn
      | (apply St.gyes (by rfl) (by rfl); first
          | exact V.mv (by constructor)
          | exact V.lssT rfl rfl (by omega)
          | exact V.lssF rfl rfl (by omega)
          | exact V.lss rfl rfl
          | exact V.gtrT rfl rfl (by omega)
          | exact V.gtrF rfl rfl (by omega)
          | exact V.gtr rfl rfl
          | exact V.leqT rfl rfl (by omega)
          | exact V.leqF rfl rfl (by omega)
          | exact V.leq rfl rfl
          | exact V.geqT rfl rfl (by omega)
          | exact V.geqF rfl rfl (by omega)
          | exact V.geq rfl rfl
          | exact V.eqlT rfl rfl (by omega)
          | exact V.eqlF rfl rfl (by omega)
          | exact V.eql rfl rfl
          | exact V.neqT rfl rfl (by omega)
          | exact V.neqF rfl rfl (by omega)
          | exact V.neq rfl rfl
          | exact V.len rfl
          | exact V.lenS rfl
          | exact V.eqlST rfl rfl (by first | rfl | assumption | decide)
          | exact V.eqlSF rfl rfl (by first | assumption | decide)
          | exact V.neqSF rfl rfl (by first | rfl | assumption | decide)
          | exact V.neqST rfl rfl (by first | assumption | decide)
          | exact V.eqlS rfl rfl
          | exact V.neqS rfl rfl
          | exact V.lssS rfl rfl
          | exact V.idxS rfl rfl (by omega)
          | exact V.catS rfl rfl (by omega)
          | exact V.eqlB rfl rfl
          | exact V.neqB rfl rfl
          | exact V.neqInil rfl
          | exact V.neqIsome rfl
          | exact V.eqlInil rfl
          | exact V.eqlIsome rfl
          | exact V.lens rfl
          | exact V.addI rfl rfl (by omega)
          | exact V.subI rfl rfl (by omega)
          | exact V.mulI rfl rfl (by omega)
          | exact V.remI rfl rfl (by omega)
          | exact V.notT rfl
          | exact V.notF rfl
          | exact V.not rfl
          | exact V.nilCheck rfl
          | exact V.faddr rfl
          | exact V.pickT rfl (by constructor)
          | exact V.pickF rfl (by constructor))
      | apply St.gnoT (by rfl) (by rfl)
      | apply St.gnoF (by rfl) (by rfl)
      | apply St.gun (by rfl) (by rfl)
      | apply St.mnil
      | (apply St.mval; intro _ _; first
          | exact V.mv (by constructor)
          | exact V.as_ (by constructor)
          | exact V.addI rfl rfl (by omega)
          | exact V.lssT rfl rfl (by omega)
          | exact V.lssF rfl rfl (by omega)
          | exact V.lss rfl rfl
          | exact V.len rfl
          | exact V.exT rfl (by constructor) (by simp)
          | exact V.eqlT rfl rfl (by omega)
          | exact V.eqlF rfl rfl (by omega)
          | exact V.eql rfl rfl
          | exact V.neqT rfl rfl (by omega)
          | exact V.neqF rfl rfl (by omega)
          | exact V.neq rfl rfl
          | exact V.leqT rfl rfl (by omega)
          | exact V.leqF rfl rfl (by omega)
          | exact V.leq rfl rfl
          | exact V.gtrT rfl rfl (by omega)
          | exact V.gtrF rfl rfl (by omega)
          | exact V.gtr rfl rfl
          | exact V.geqT rfl rfl (by omega)
          | exact V.geqF rfl rfl (by omega)
          | exact V.geq rfl rfl
          | exact V.pickT rfl (by constructor)
          | exact V.pickF rfl (by constructor)
          | exact V.subI rfl rfl (by omega)
          | exact V.mulI rfl rfl (by omega)
          | exact V.quoI rfl rfl (by omega)
          | exact V.remI rfl rfl (by omega)
          | exact V.xorB rfl rfl
          | exact V.xorBc rfl
          | exact V.xorW rfl rfl
          | exact V.xorWc rfl
          | exact V.xorQ rfl rfl
          | exact V.xorQc rfl
          | exact V.addW rfl rfl
          | exact V.addWc rfl
          | exact V.mulWc rfl
          | exact V.mulW rfl rfl
          | exact V.addQ rfl rfl
          | exact V.addQc rfl
          | exact V.mulQc rfl
          | exact V.andW rfl rfl
          | exact V.andWc rfl
          | exact V.andQ rfl rfl
          | exact V.andQc rfl
          | exact V.orW rfl rfl
          | exact V.orQ rfl rfl
          | exact V.shlW rfl (by decide)
          | exact V.shrW rfl (by decide)
          | exact V.shlQ rfl (by decide)
          | exact V.shrQ rfl (by decide)
          | exact V.convBI rfl
          | exact V.convWInt rfl
          | exact V.convBW rfl
          | exact V.convBQ rfl
          | exact V.convWQ rfl
          | exact V.convQW rfl
          | exact V.convWB rfl
          | exact V.convQB rfl
          | exact V.convI rfl (by omega)
          | exact V.convBIn rfl (by omega)
          | exact V.convQI rfl (by omega)
          | exact V.convWI rfl (by omega)
          | exact V.convB rfl
          | exact V.convW rfl
          | exact V.convQ rfl
          | exact V.lenS rfl
          | exact V.eqlST rfl rfl (by first | rfl | assumption | decide)
          | exact V.eqlSF rfl rfl (by first | assumption | decide)
          | exact V.neqSF rfl rfl (by first | rfl | assumption | decide)
          | exact V.neqST rfl rfl (by first | assumption | decide)
          | exact V.eqlS rfl rfl
          | exact V.neqS rfl rfl
          | exact V.lssS rfl rfl
          | exact V.idxS rfl rfl (by omega)
          | exact V.catS rfl rfl (by omega)
          | exact V.eqlB rfl rfl
          | exact V.neqB rfl rfl
          | exact V.neqInil rfl
          | exact V.neqIsome rfl
          | exact V.eqlInil rfl
          | exact V.eqlIsome rfl
          | exact V.lens rfl
          | exact V.nilCheck rfl
          | exact V.notT rfl
          | exact V.notF rfl
          | exact V.not rfl
          | exact V.faddr rfl
          | exact V.eqlPnil rfl rfl
          | exact V.eqlPsome rfl rfl
          | exact V.neqPnil rfl rfl
          | exact V.neqPsome rfl rfl
          | exact V.minI rfl rfl
          | exact V.maxI rfl rfl)
      | (apply St.mgyes (by rfl) (by rfl); intro _ _; first
          | exact V.mv (by constructor)
          | exact V.lssT rfl rfl (by omega)
          | exact V.lssF rfl rfl (by omega)
          | exact V.lss rfl rfl
          | exact V.gtrT rfl rfl (by omega)
          | exact V.gtrF rfl rfl (by omega)
          | exact V.gtr rfl rfl
          | exact V.leqT rfl rfl (by omega)
          | exact V.leqF rfl rfl (by omega)
          | exact V.leq rfl rfl
          | exact V.geqT rfl rfl (by omega)
          | exact V.geqF rfl rfl (by omega)
          | exact V.geq rfl rfl
          | exact V.eqlT rfl rfl (by omega)
          | exact V.eqlF rfl rfl (by omega)
          | exact V.eql rfl rfl
          | exact V.neqT rfl rfl (by omega)
          | exact V.neqF rfl rfl (by omega)
          | exact V.neq rfl rfl
          | exact V.len rfl
          | exact V.lenS rfl
          | exact V.eqlST rfl rfl (by first | rfl | assumption | decide)
          | exact V.eqlSF rfl rfl (by first | assumption | decide)
          | exact V.neqSF rfl rfl (by first | rfl | assumption | decide)
          | exact V.neqST rfl rfl (by first | assumption | decide)
          | exact V.eqlS rfl rfl
          | exact V.neqS rfl rfl
          | exact V.lssS rfl rfl
          | exact V.idxS rfl rfl (by omega)
          | exact V.catS rfl rfl (by omega)
          | exact V.eqlB rfl rfl
          | exact V.neqB rfl rfl
          | exact V.neqInil rfl
          | exact V.neqIsome rfl
          | exact V.eqlInil rfl
          | exact V.eqlIsome rfl
          | exact V.lens rfl
          | exact V.addI rfl rfl (by omega)
          | exact V.subI rfl rfl (by omega)
          | exact V.mulI rfl rfl (by omega)
          | exact V.remI rfl rfl (by omega)
          | exact V.notT rfl
          | exact V.notF rfl
          | exact V.not rfl
          | exact V.nilCheck rfl
          | exact V.faddr rfl
          | exact V.pickT rfl (by constructor)
          | exact V.pickF rfl (by constructor))
      | apply St.mgnoT (by rfl) (by rfl)
      | apply St.mgnoF (by rfl) (by rfl)
      | apply St.mgun (by rfl) (by rfl)))
    exact St.end_ _) : X := s.f k
end Go.Proofs.YtoggdigclbcndaaDoor.E
