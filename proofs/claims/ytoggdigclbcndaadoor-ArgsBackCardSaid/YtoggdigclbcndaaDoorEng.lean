/-
  A small calculus for walking through a function's operations: frames as functions of a slot's number, memory as a heap alone.
  Own work over the kit's laws on wp; it names no function of any program.
-/
import Derived.WalkKit
import Derived.Deep.Quiet
import Derived.StillTail
import Derived.KernelRfl
import Derived.Maps.AppendAt
set_option linter.unusedVariables false
set_option linter.unusedSimpArgs false
namespace Go.Proofs.YtoggdigclbcndaaDoor.E
open Go

abbrev Heap := Array Obj
abbrev Slots := Nat → Value

/-- a frame with one slot set -/
def upd (σ : Slots) (d : Nat) (v : Value) : Slots := fun t => cond (Nat.beq t d) v (σ t)
/-- the first slots of a frame -/
def ini (l : List Value) : Slots := fun t => l.getD t undef
/-- a frame of n slots -/
def fr (n : Nat) (σ : Slots) : Act := { tmps := (List.map σ (List.range n)).toArray, defers := [] }
/-- a world with another heap, after so many draws -/
def wld (w : World) (h : Heap) (d : Nat) : World := { w with heap := h, drawn := d }
/-- what an operand is worth -/
def ev (n : Nat) (σ : Slots) : Operand → Value
  | .tmp t => cond (Nat.blt t n) (σ t) undef
  | .const v => v
  | .global g => .pointer (some ⟨g, 0, none⟩)
  | .func f => .func (.func f) #[] #[]
/-- a result put where it goes -/
def put (σ : Slots) : Option Nat → Value → Slots
  | some d, v => upd σ d v
  | none, _ => σ

theorem upd_same (σ : Slots) (d : Nat) (v : Value) : upd σ d v d = v := by simp [upd]
theorem upd_ne (σ : Slots) (d : Nat) (v : Value) (t : Nat) (h : t ≠ d) : upd σ d v t = σ t := by
  have : Nat.beq t d = false := by
    cases hb : Nat.beq t d
    · rfl
    · exact absurd (Nat.eq_of_beq_eq_true hb) h
  simp [upd, this]
/-- a slot that holds v may be set to v -/
theorem upd_self {σ : Slots} {d : Nat} {v : Value} (h : σ d = v) : upd σ d v = σ := by
  funext t
  by_cases ht : t = d
  · subst ht; rw [upd_same, h]
  · rw [upd_ne _ _ _ _ ht]
theorem fr_eval (n : Nat) (σ : Slots) (x : Operand) : (fr n σ).eval x = ev n σ x := by
  cases x with
  | tmp t =>
    simp only [Act.eval, fr, ev]
    by_cases h : t < n
    · have hb : Nat.blt t n = true := by simpa [Nat.blt_eq] using h
      simp [hb, h]
    · have hb : Nat.blt t n = false := by
        cases hb : Nat.blt t n
        · rfl
        · exact absurd (by simpa [Nat.blt_eq] using hb) h
      simp [hb, Array.getD, h]
  | _ => rfl
theorem fr_eval' (n : Nat) (σ : Slots) : (fr n σ).eval = ev n σ := funext (fr_eval n σ)
theorem fr_put (n : Nat) (σ : Slots) (d : Option Nat) (v : Value) : (fr n σ).put d v = fr n (put σ d v) := by
  cases d with
  | none => rfl
  | some d =>
    simp only [Act.put, fr, put, List.setIfInBounds_toArray]
    congr 2
    apply List.ext_getElem
    · simp
    · intro i h1 h2
      simp only [List.length_set, List.length_map, List.length_range] at h1
      simp only [List.getElem_set, List.getElem_map, List.getElem_range]
      by_cases hd : d = i
      · subst hd; rw [if_pos rfl, upd_same]
      · rw [if_neg hd, upd_ne _ _ _ _ (Ne.symm hd)]
theorem fr_ini (n : Nat) (args : List Value) (h : args.length ≤ n) : ({ tmps := args.toArray ++ Array.replicate (n - args.toArray.size) undef, defers := [] } : Act) = fr n (ini args) := by
  simp only [fr]
  congr 1
  apply Array.ext
  · simp; omega
  · intro i h1 h2
    simp only [List.size_toArray, List.length_map, List.length_range] at h2
    by_cases hi : i < args.length
    · simp [ini, Array.getElem_append, hi, List.getD_eq_getElem?_getD]
    · simp [ini, Array.getElem_append, hi, List.getD_eq_getElem?_getD, List.getElem?_eq_none (Nat.le_of_not_lt hi)]
theorem wld_self (w : World) : wld w w.heap w.drawn = w := rfl
theorem wld_wld (w : World) (h h' : Heap) (d d' : Nat) : wld (wld w h d) h' d' = wld w h' d' := rfl
@[simp] theorem wld_heap (w : World) (h : Heap) (d : Nat) : (wld w h d).heap = h := rfl

/-! ### Judgements -/
/-- what is to hold where code ends: of the exit, the slots, the heap -/
abbrev Post := Exit → Slots → Heap → Prop
def post (w0 : World) (n : Nat) (Φ : Post) : Exit → Act → World → Prop :=
  fun e a w => ∃ σ h d, a = fr n σ ∧ w = wld w0 h d ∧ Φ e σ h
/-- code -/
structure C (P : Program) (w0 : World) (n : Nat) (c : Code) (Φ : Post) (σ : Slots) (h : Heap) : Prop where
  mk :: (out : ∀ d, c.wp P (post w0 n Φ) (fr n σ) (wld w0 h d))
/-- how a list of operations is walked: in order; in order, each only reading (of a region that draws); the head of such a list -/
inductive Md where
  | seq | quiet | still
/-- a list of operations (ops: the whole region) -/
structure L (P : Program) (w0 : World) (n : Nat) (ops : Array Oper) (m : Md) (Φ : Post) (l : List Oper) (σ : Slots) (h : Heap) : Prop where
  mk :: (out : match m with
    | .seq => ∀ d, wpList P ops (post w0 n Φ) l (fr n σ) (wld w0 h d)
    | .quiet => wpQuiet P ops (fun w => ∃ d, w = wld w0 h d) (fun a => ∃ σ', a = fr n σ' ∧ Φ .normal σ' h) l (fr n σ)
    | .still => ∀ d, wpStill P ops (wld w0 h d) (fun a => ∃ σ', a = fr n σ' ∧ Φ .normal σ' h) l (fr n σ))
/-- an operation that yields v and leaves the heap alone -/
structure V (P : Program) (w0 : World) (n : Nat) (σ : Slots) (h : Heap) (op : Op) (ty : TypeId) (v : Value) : Prop where
  mk :: (out : ∀ d dst pos after g, (execOp (fr n σ).eval ⟨dst, op, ty, pos, after, g⟩).run P (wld w0 h d) = .ok (.value v) (wld w0 h d))
/-- a call's contract: whatever the world with this heap: it returns a value, nothing but heap and draws has turned -/
def Ret (P : Program) (f : FuncId) (args : List Value) (h : Heap) (S : Value → Heap → Prop) : Prop :=
  ∀ w : World, w.heap = h → Calls P f args.toArray w (fun e w' => ∃ v, e = .returned v ∧ (∃ h' d', w' = wld w h' d' ∧ S v h'))
/-- the same, the heap untouched -/
def RetQ (P : Program) (f : FuncId) (args : List Value) (h : Heap) (v : Value) : Prop :=
  ∀ w : World, w.heap = h → Calls P f args.toArray w (fun e w' => e = .returned v ∧ ∃ d', w' = wld w h d')
theorem Ret.mono {P : Program} {f : FuncId} {args : List Value} {h : Heap} {S S' : Value → Heap → Prop} (hr : Ret P f args h S) (hs : ∀ v h', S v h' → S' v h') : Ret P f args h S' :=
  fun w hw => (hr w hw).mono fun _ _ ⟨v, e, h', d', hw', hS⟩ => ⟨v, e, h', d', hw', hs _ _ hS⟩
theorem RetQ.ret {P : Program} {f : FuncId} {args : List Value} {h : Heap} {v : Value} (hr : RetQ P f args h v) : Ret P f args h (fun u h' => u = v ∧ h' = h) :=
  fun w hw => (hr w hw).mono fun _ _ ⟨e, d', hw'⟩ => ⟨v, e, h, d', hw', rfl, rfl⟩
theorem Ret.quiet {P : Program} {f : FuncId} {args : List Value} {h : Heap} {v : Value} (hr : Ret P f args h (fun u h' => u = v ∧ h' = h)) : RetQ P f args h v :=
  fun w hw => (hr w hw).mono fun _ _ ⟨u, e, h', d', hw', hu, hh⟩ => by subst hu; subst hh; exact ⟨e, d', hw'⟩

section
variable {P : Program} {w0 : World} {n : Nat} {Φ : Post} {σ : Slots} {h : Heap} {ops : Array Oper} {m : Md}

/-! ### Code -/
/-- what follows behind a piece of code that ends as it should -/
def Th (A : Slots → Heap → Prop) (Φ : Post) : Post
  | .normal, σ, h => A σ h
  | e, σ, h => Φ e σ h
theorem Th.ok {A : Slots → Heap → Prop} (hh : A σ h) : Th A Φ .normal σ h := hh
def InB (id : Nat) (Φ : Post) : Post
  | .exit id', σ, h => if id' = id then Φ .normal σ h else Φ (.exit id') σ h
  | e, σ, h => Φ e σ h
theorem post_then {A : Slots → Heap → Prop} {nx : Act → World → Prop} (hA : ∀ σ h d, A σ h → nx (fr n σ) (wld w0 h d)) :
    ∀ e a w, post w0 n (Th A Φ) e a w → Exit.then nx (post w0 n Φ) e a w := by
  rintro e a w ⟨σ, h, d, rfl, rfl, hh⟩
  cases e <;> first | exact hA _ _ _ hh | exact ⟨σ, h, d, rfl, rfl, hh⟩
theorem C.seq {x y : Code} (hx : C P w0 n x (Th (fun σ h => C P w0 n y Φ σ h) Φ) σ h) : C P w0 n (.seq x y) Φ σ h :=
  ⟨fun d => wp_seq (wp_mono (hx.out d) (post_then fun _ _ d hh => hh.out d))⟩
/-- in between, what holds is said anew -/
theorem C.cut {x y : Code} (A : Slots → Heap → Prop) (hx : C P w0 n x (Th A Φ) σ h) (hy : ∀ σ h, A σ h → C P w0 n y Φ σ h) : C P w0 n (.seq x y) Φ σ h :=
  .seq ⟨fun d => wp_mono (hx.out d) (by rintro e a w ⟨σ, h, d, rfl, rfl, hh⟩; refine ⟨σ, h, d, rfl, rfl, ?_⟩; cases e <;> first | exact hy _ _ hh | exact hh)⟩
theorem C.mono {c : Code} {Ψ : Post} (hc : C P w0 n c Ψ σ h) (hm : ∀ e σ h, Ψ e σ h → Φ e σ h) : C P w0 n c Φ σ h :=
  ⟨fun d => wp_mono (hc.out d) (by rintro e a w ⟨σ, h, d, rfl, rfl, hh⟩; exact ⟨σ, h, d, rfl, rfl, hm _ _ _ hh⟩)⟩
theorem C.skip (hh : Φ .normal σ h) : C P w0 n .skip Φ σ h := ⟨fun d => wp_skip ⟨σ, h, d, rfl, rfl, hh⟩⟩
theorem C.label {l : Nat} (hh : Φ .normal σ h) : C P w0 n (.label l) Φ σ h := ⟨fun d => wp_label ⟨σ, h, d, rfl, rfl, hh⟩⟩
theorem C.ret (hh : Φ .ret σ h) : C P w0 n .ret Φ σ h := ⟨fun d => wp_ret ⟨σ, h, d, rfl, rfl, hh⟩⟩
theorem C.exit {id : Nat} (hh : Φ (.exit id) σ h) : C P w0 n (.exit id) Φ σ h := ⟨fun d => wp_exit ⟨σ, h, d, rfl, rfl, hh⟩⟩
theorem C.block {id : Nat} {c : Code} (hc : C P w0 n c (InB id Φ) σ h) : C P w0 n (.block id c) Φ σ h :=
  ⟨fun d => wp_block (wp_mono (hc.out d) (by
    rintro e a w ⟨σ, h, d, rfl, rfl, hh⟩
    cases e <;> try exact ⟨σ, h, d, rfl, rfl, hh⟩
    rename_i i
    simp only [InB] at hh
    simp only [Exit.inBlock]
    split
    · rename_i hi; rw [if_pos hi] at hh; exact ⟨σ, h, d, rfl, rfl, hh⟩
    · rename_i hi; rw [if_neg hi] at hh; exact ⟨σ, h, d, rfl, rfl, hh⟩))⟩
theorem C.cond {c : Operand} {x y : Code} {t : Bool} (hc : ev n σ c = .bool t) (ht : t = true → C P w0 n x Φ σ h) (hf : t = false → C P w0 n y Φ σ h) : C P w0 n (.cond c x y) Φ σ h :=
  ⟨fun d => wp_cond_split (t := t) (by rw [fr_eval]; exact hc) (fun e => (ht e).out d) (fun e => (hf e).out d)⟩
theorem C.condD {c : Operand} {x y : Code} {p : Prop} [Decidable p] (hc : ev n σ c = .bool (decide p)) (ht : p → C P w0 n x Φ σ h) (hf : ¬ p → C P w0 n y Φ σ h) : C P w0 n (.cond c x y) Φ σ h :=
  .cond hc (fun e => ht (of_decide_eq_true e)) (fun e => hf (of_decide_eq_false e))
theorem C.condT {c : Operand} {x y : Code} {t : Bool} (hc : ev n σ c = .bool t) (ht : t = true) (hx : C P w0 n x Φ σ h) : C P w0 n (.cond c x y) Φ σ h :=
  .cond hc (fun _ => hx) (fun e => absurd (ht.symm.trans e) (by decide))
theorem C.condF {c : Operand} {x y : Code} {t : Bool} (hc : ev n σ c = .bool t) (ht : t = false) (hy : C P w0 n y Φ σ h) : C P w0 n (.cond c x y) Φ σ h :=
  .cond hc (fun e => absurd (ht.symm.trans e) (by decide)) (fun _ => hy)
theorem least {p : Nat → Prop} (h : ∃ k, p k) : ∃ k, p k ∧ ∀ j, j < k → ¬ p j := by
  obtain ⟨k, hk⟩ := h
  induction k using Nat.strongRecOn with
  | _ k ih =>
    by_cases hj : ∃ j, j < k ∧ p j
    · obtain ⟨j, hj, hp⟩ := hj; exact ih j hj hp
    · exact ⟨k, hk, fun j h1 h2 => hj ⟨j, h1, h2⟩⟩
/-- a loop: I k: what holds at its head, with at most k rounds to go -/
theorem C.loop {c : Code} (I : Nat → Slots → Heap → Prop) (k : Nat) (h0 : I k σ h)
    (round : ∀ k σ h, I k σ h → C P w0 n c (Th (fun σ' h' => ∃ k', k' < k ∧ I k' σ' h') Φ) σ h) : C P w0 n (.loop c) Φ σ h := by
  refine ⟨fun d => ?_⟩
  let p : Act → World → Nat → Prop := fun a w k => ∃ σ h d, a = fr n σ ∧ w = wld w0 h d ∧ I k σ h
  have hm : ∃ μ : Act → World → Nat, ∀ a w, (∃ k, p a w k) → p a w (μ a w) ∧ ∀ j, j < μ a w → ¬ p a w j :=
    ⟨fun a w => @dite _ (∃ k, p a w k) (Classical.propDecidable _) (fun hx => Classical.choose (least hx)) (fun _ => 0), fun a w hx => by
      dsimp only
      rw [dif_pos hx]; exact Classical.choose_spec (least hx)⟩
  obtain ⟨μ, hμ⟩ := hm
  refine wp_loop (fun a w => ∃ k, p a w k) μ ⟨k, σ, h, d, rfl, rfl, h0⟩ ?_
  intro a w hx
  obtain ⟨⟨σ, h, d, ha, hw, hI⟩, hmin⟩ := hμ a w hx
  generalize μ a w = k at *
  subst ha hw
  refine wp_mono ((round k σ h hI).out d) ?_
  rintro e a w ⟨σ', h', d', rfl, rfl, hh⟩
  cases e <;> try exact ⟨σ', h', d', rfl, rfl, hh⟩
  obtain ⟨k', hk', hI'⟩ := hh
  have hp : p (fr n σ') (wld w0 h' d') k' := ⟨σ', h', d', rfl, rfl, hI'⟩
  refine ⟨⟨k', hp⟩, ?_⟩
  have h2 := (hμ (fr n σ') (wld w0 h' d') ⟨k', hp⟩).2
  exact Nat.lt_of_le_of_lt (Nat.le_of_not_lt fun hlt => h2 k' hlt hp) hk'

/-- slots set, one behind the other -/
def ups (σ : Slots) : List (Nat × Value) → Slots
  | [] => σ
  | (d, v) :: l => ups (upd σ d v) l
/-- what some slots hold -/
def Holds (σ : Slots) : List (Nat × Value) → Prop
  | [] => True
  | (d, v) :: l => σ d = v ∧ Holds σ l
theorem ups_of {σ : Slots} : ∀ {l : List (Nat × Value)}, Holds σ l → ups σ l = σ
  | [], _ => rfl
  | (d, v) :: l, hh => by
    show ups (upd σ d v) l = σ
    rw [upd_self hh.1]
    exact ups_of hh.2
/-- a loop: J k l: what holds at its head of the heap, l telling the slots that are read later -/
theorem C.loopv {c : Code} (J : Nat → List (Nat × Value) → Heap → Prop) (k : Nat) (l : List (Nat × Value)) (h0 : J k l h) (hs : Holds σ l)
    (round : ∀ k l h τ, J k l h → C P w0 n c (Th (fun σ' h' => ∃ k' l', k' < k ∧ J k' l' h' ∧ Holds σ' l') Φ) (ups τ l) h) : C P w0 n (.loop c) Φ σ h := by
  refine C.loop (fun k σ h => ∃ l, J k l h ∧ Holds σ l) k ⟨l, h0, hs⟩ ?_
  rintro k σ h ⟨l, hJ, hl⟩
  have := round k l h σ hJ
  rw [ups_of hl] at this
  refine this.mono ?_
  intro e σ' h' hh
  cases e <;> try exact hh
  obtain ⟨k', l', h1, h2, h3⟩ := hh
  exact ⟨k', h1, l', h2, h3⟩
/-- in between: what holds of slots and heap is said anew -/
theorem C.cutv {x y : Code} (A : List (Nat × Value) → Heap → Prop) (hx : C P w0 n x (Th (fun σ h => ∃ l, A l h ∧ Holds σ l) Φ) σ h) (hy : ∀ l h τ, A l h → C P w0 n y Φ (ups τ l) h) : C P w0 n (.seq x y) Φ σ h :=
  .cut _ hx (by rintro σ h ⟨l, hA, hl⟩; have := hy l h σ hA; rwa [ups_of hl] at this)

/-! ### Regions -/
theorem C.region {id : Nat} {l : List Oper} (hl : L P w0 n l.toArray .seq Φ l σ h) : C P w0 n (.region id l.toArray false) Φ σ h :=
  ⟨fun d => wp_region_lit (hl.out d)⟩
theorem wpStill_mono' {w : World} {Q Q' : Act → Prop} (hQ : ∀ a, Q a → Q' a) : ∀ (l : List Oper) (a : Act), wpStill P ops w Q l a → wpStill P ops w Q' l a
  | [], a, hh => hQ a hh
  | o :: l, a, hh => by
    unfold wpStill at hh ⊢
    split
    · rename_i hw; rw [if_pos hw] at hh; exact Oper.still_mono (fun a => wpStill_mono' hQ l a) hh
    · rename_i hw; rw [if_neg hw] at hh; exact wpStill_mono' hQ l _ hh
theorem wpQuiet_mono' {K : World → Prop} {Q Q' : Act → Prop} (hQ : ∀ a, Q a → Q' a) : ∀ (l : List Oper) (a : Act), wpQuiet P ops K Q l a → wpQuiet P ops K Q' l a
  | [], a, hh => hQ a hh
  | o :: l, a, hh => by
    unfold wpQuiet at hh ⊢
    split
    · rename_i hw; rw [if_pos hw] at hh; exact Oper.quiet_mono (fun a => wpQuiet_mono' hQ l a) hh
    · rename_i hw; rw [if_neg hw] at hh; exact wpQuiet_mono' hQ l _ hh
/-- a region that draws its order, and only reads -/
theorem C.quiet {id : Nat} {l : List Oper} (hm : P.follows .mixedOrders = true) (hB : Region.lexB .any l.toArray = true) (hl : L P w0 n l.toArray .quiet Φ l σ h) : C P w0 n (.region id l.toArray true) Φ σ h :=
  ⟨fun d => wp_region_quiet (C := fun w => ∃ d, w = wld w0 h d) hm hB ⟨d + 1, rfl⟩ (by
    have := hl.out
    simp only [List.toList_toArray]
    refine wpQuiet_mono' ?_ _ _ this
    rintro a ⟨σ', rfl, hh⟩ w ⟨d', rfl⟩
    exact ⟨σ', h, d', rfl, rfl, hh⟩)⟩
/-- a region that draws its order: all but what stands behind the first k operations only reads; that stands in one order -/
theorem C.still {id : Nat} {l : List Oper} (k : Nat) (hm : P.follows .mixedOrders = true) (hB : Region.lexTailB .any l.toArray k = true)
    (hl : L P w0 n l.toArray .still (fun _ σ h => L P w0 n l.toArray .seq Φ (l.drop k) σ h) (l.take k) σ h) : C P w0 n (.region id l.toArray true) Φ σ h :=
  ⟨fun d => wp_region_still_tail k hm hB (wpStill_mono' (by rintro a ⟨σ', rfl, hh⟩; exact hh.out (d + 1)) _ _ (hl.out (d + 1)))⟩

/-! ### Operations -/
theorem L.nil (hh : Φ .normal σ h) : L P w0 n ops m Φ [] σ h := by
  refine ⟨?_⟩
  cases m with
  | seq => exact fun d => wpList_nil ⟨σ, h, d, rfl, rfl, hh⟩
  | quiet => exact wpQuiet_nil ⟨σ, rfl, hh⟩
  | still => exact fun d => wpStill_nil ⟨σ, rfl, hh⟩
theorem wanted_none {dst : Option Nat} {op : Op} {ty : TypeId} {pos : String} {after : Array Edge} {y : Nat → Option Bool} : Region.wanted ⟨dst, op, ty, pos, after, none⟩ y = true := rfl
/-- an operation that comes up and yields v -/
theorem L.want {dst : Option Nat} {op : Op} {ty : TypeId} {pos : String} {after : Array Edge} {g : Option (Nat × Bool)} {rest : List Oper} {v : Value}
    (hw : Region.wanted ⟨dst, op, ty, pos, after, g⟩ (yielded ops (fr n σ).tmps) = true)
    (hv : V P w0 n σ h op ty v) (hl : L P w0 n ops m Φ rest (put σ dst v) h) : L P w0 n ops m Φ (⟨dst, op, ty, pos, after, g⟩ :: rest) σ h := by
  refine ⟨?_⟩
  cases m with
  | seq =>
    intro d
    unfold wpList
    rw [if_pos hw]
    refine .inl ?_
    unfold Oper.wp
    rw [hv.out d, Oper.upon_value, fr_put]
    exact hl.out d
  | quiet =>
    show wpQuiet _ _ _ _ (_ :: _) _
    unfold wpQuiet
    rw [if_pos hw]
    refine ⟨v, ?_, ?_⟩
    · rintro w ⟨d, rfl⟩
      unfold Oper.quietAt
      rw [hv.out d]
      exact ⟨rfl, rfl⟩
    · rw [fr_put]; exact hl.out
  | still =>
    intro d
    unfold wpStill
    rw [if_pos hw]
    unfold Oper.still
    rw [hv.out d, Oper.stillUpon_value, fr_put]
    exact hl.out d
theorem L.val {dst : Option Nat} {op : Op} {ty : TypeId} {pos : String} {after : Array Edge} {rest : List Oper} {v : Value}
    (hv : V P w0 n σ h op ty v) (hl : L P w0 n ops m Φ rest (put σ dst v) h) : L P w0 n ops m Φ (⟨dst, op, ty, pos, after, none⟩ :: rest) σ h := .want rfl hv hl
theorem yielded_fr {j dj : Nat} {b : Bool} (hd : (ops[j]?).bind (·.dst) = some dj) (hs : ev n σ (.tmp dj) = .bool b) : yielded ops (fr n σ).tmps j = some b := by
  unfold yielded
  rw [hd]
  have : (fr n σ).tmps[dj]? = some (.bool b) := by
    by_cases hlt : dj < n
    · have hb : Nat.blt dj n = true := by simpa [Nat.blt_eq] using hlt
      simp only [ev, hb, cond_true] at hs
      simp [fr, hlt, hs]
    · have hb : Nat.blt dj n = false := by
        cases hb : Nat.blt dj n
        · rfl
        · exact absurd (by simpa [Nat.blt_eq] using hb) hlt
      simp [ev, hb, undef] at hs
  rw [Option.bind_some, this]
/-- a guarded operation whose guard says yes -/
theorem L.gyes {dst : Option Nat} {op : Op} {ty : TypeId} {pos : String} {after : Array Edge} {rest : List Oper} {v : Value} {j dj : Nat} {b : Bool}
    (hd : (ops[j]?).bind (·.dst) = some dj) (hs : ev n σ (.tmp dj) = .bool b)
    (hv : V P w0 n σ h op ty v) (hl : L P w0 n ops m Φ rest (put σ dst v) h) : L P w0 n ops m Φ (⟨dst, op, ty, pos, after, some (j, b)⟩ :: rest) σ h :=
  .want (by simp [Region.wanted, yielded_fr hd hs]) hv hl
/-- a guarded operation whose guard says no -/
theorem L.unwant {o : Oper} {rest : List Oper} (hw : Region.wanted o (yielded ops (fr n σ).tmps) = false) (hl : L P w0 n ops m Φ rest (put σ o.dst undef) h) : L P w0 n ops m Φ (o :: rest) σ h := by
  refine ⟨?_⟩
  have hw' : ¬ Region.wanted o (yielded ops (fr n σ).tmps) = true := by rw [hw]; decide
  cases m with
  | seq => intro d; unfold wpList; rw [if_neg hw', fr_put]; exact hl.out d
  | quiet => show wpQuiet _ _ _ _ (_ :: _) _; unfold wpQuiet; rw [if_neg hw', fr_put]; exact hl.out
  | still => intro d; unfold wpStill; rw [if_neg hw', fr_put]; exact hl.out d
theorem L.gno {dst : Option Nat} {op : Op} {ty : TypeId} {pos : String} {after : Array Edge} {rest : List Oper} {j dj : Nat} {b b' : Bool}
    (hd : (ops[j]?).bind (·.dst) = some dj) (hs : ev n σ (.tmp dj) = .bool b') (hb : b' ≠ b)
    (hl : L P w0 n ops m Φ rest (put σ dst undef) h) : L P w0 n ops m Φ (⟨dst, op, ty, pos, after, some (j, b)⟩ :: rest) σ h :=
  .unwant (by simp [Region.wanted, yielded_fr hd hs, hb]) hl
theorem yielded_undef {j dj : Nat} (hd : (ops[j]?).bind (·.dst) = some dj) (hs : ev n σ (.tmp dj) = undef) : yielded ops (fr n σ).tmps j = none := by
  unfold yielded
  rw [hd, Option.bind_some]
  by_cases hlt : dj < n
  · have hb : Nat.blt dj n = true := by simpa [Nat.blt_eq] using hlt
    simp only [ev, hb, cond_true] at hs
    have : (fr n σ).tmps[dj]? = some undef := by simp [fr, hlt, hs]
    rw [this]; rfl
  · have : (fr n σ).tmps[dj]? = none := by simp [fr]; omega
    rw [this]
theorem L.gundef {dst : Option Nat} {op : Op} {ty : TypeId} {pos : String} {after : Array Edge} {rest : List Oper} {j dj : Nat} {b : Bool}
    (hd : (ops[j]?).bind (·.dst) = some dj) (hs : ev n σ (.tmp dj) = undef)
    (hl : L P w0 n ops m Φ rest (put σ dst undef) h) : L P w0 n ops m Φ (⟨dst, op, ty, pos, after, some (j, b)⟩ :: rest) σ h :=
  .unwant (by simp [Region.wanted, yielded_undef hd hs]) hl
theorem L.op {d : Nat} {op : Op} {ty : TypeId} {pos : String} {after : Array Edge} {rest : List Oper} {v : Value}
    (hv : V P w0 n σ h op ty v) (hl : L P w0 n ops m Φ rest (upd σ d v) h) : L P w0 n ops m Φ (⟨some d, op, ty, pos, after, none⟩ :: rest) σ h := .want rfl hv hl
/-- an operation that may turn the heap -/
structure D (P : Program) (w0 : World) (n : Nat) (σ : Slots) (h : Heap) (op : Op) (ty : TypeId) (S : Value → Heap → Prop) : Prop where
  mk :: (out : ∀ d dst pos after g, ∃ v h' d', ((execOp (fr n σ).eval ⟨dst, op, ty, pos, after, g⟩).run P (wld w0 h d) = .ok (.value v) (wld w0 h' d') ∨ ((execOp (fr n σ).eval ⟨dst, op, ty, pos, after, g⟩).run P (wld w0 h d) = .ok .skip (wld w0 h' d') ∧ v = undef)) ∧ S v h')
theorem L.doesw {o : Oper} {rest : List Oper} {S : Value → Heap → Prop} (hw : Region.wanted o (yielded ops (fr n σ).tmps) = true)
    (hd : D P w0 n σ h o.op o.type S) (hl : ∀ v h', S v h' → L P w0 n ops .seq Φ rest (put σ o.dst v) h') : L P w0 n ops .seq Φ (o :: rest) σ h := by
  refine ⟨fun d => ?_⟩
  unfold wpList
  rw [if_pos hw]
  refine .inl ?_
  unfold Oper.wp
  obtain ⟨v, h', d', hr, hS⟩ := hd.out d o.dst o.pos o.after o.guard
  rcases hr with hr | ⟨hr, rfl⟩
  · rw [hr, Oper.upon_value, fr_put]; exact (hl _ _ hS).out d'
  · rw [hr, Oper.upon_skip, fr_put]; exact (hl _ _ hS).out d'
theorem L.does {dst : Option Nat} {op : Op} {ty : TypeId} {pos : String} {after : Array Edge} {rest : List Oper} {S : Value → Heap → Prop}
    (hd : D P w0 n σ h op ty S) (hl : ∀ v h', S v h' → L P w0 n ops .seq Φ rest (put σ dst v) h') : L P w0 n ops .seq Φ (⟨dst, op, ty, pos, after, none⟩ :: rest) σ h := .doesw rfl hd hl

theorem L.do1 {d : Nat} {op : Op} {ty : TypeId} {pos : String} {after : Array Edge} {rest : List Oper} {S : Value → Heap → Prop}
    (hd : D P w0 n σ h op ty S) (hl : ∀ v h', S v h' → L P w0 n ops .seq Φ rest (upd σ d v) h') : L P w0 n ops .seq Φ (⟨some d, op, ty, pos, after, none⟩ :: rest) σ h := .doesw rfl hd hl
theorem L.do0 {op : Op} {ty : TypeId} {pos : String} {after : Array Edge} {rest : List Oper} {S : Value → Heap → Prop}
    (hd : D P w0 n σ h op ty S) (hl : ∀ v h', S v h' → L P w0 n ops .seq Φ rest σ h') : L P w0 n ops .seq Φ (⟨none, op, ty, pos, after, none⟩ :: rest) σ h := .doesw rfl hd hl
theorem D.post {op : Op} {ty : TypeId} {S S' : Value → Heap → Prop} (hd : D P w0 n σ h op ty S) (hs : ∀ v h', S v h' → S' v h') : D P w0 n σ h op ty S' :=
  ⟨fun d dst pos after g => let ⟨v, h', d', hr, hS⟩ := hd.out d dst pos after g; ⟨v, h', d', hr, hs _ _ hS⟩⟩

/-! ### Calls -/
/-- a function that a call enters -/
class Enters (P : Program) (f : FuncId) : Prop where
  mk :: (out : ∀ args (w : World), (callFunc f args).run P w = .ok (.enter f args) w)
theorem Enters.of {f : FuncId} {fn : Func} (hf : P.funcs[f]? = some fn) (hn : (fn.name == "runtime.NumGoroutine") = false) (hb : fn.body.isNone = false) : Enters P f :=
  ⟨fun args w => by
    have h1 : ¬ fn.name = "runtime.NumGoroutine" := by simpa using hn
    have h2 : ¬ fn.body = none := by intro hx; rw [hx] at hb; cases hb
    simp [callFunc, hf, h1, h2]⟩
theorem exec_call {f : FuncId} (he : Enters P f) {o : Oper} {l : List Operand} {ats : Array TypeId} {vals : List Value} (ho : o.op = .call { callee := .value (.func f), args := l.toArray, argTypes := ats })
    (hv : l.map (ev n σ) = vals) (w : World) : (execOp (fr n σ).eval o).run P w = .ok (.enter f vals.toArray) w := by
  subst hv
  unfold execOp
  rw [fr_eval']
  simp only [ho, resolve, Deferred.ofValue, ev, invoke, Sem.run_bind, Sem.run_pure, Result.andThen_ok, List.map_toArray, Array.empty_append, Array.append_empty]
  exact he.out _ _
theorem L.callw {f : FuncId} [he : Enters P f] {o : Oper} {rest : List Oper} {l : List Operand} {ats : Array TypeId} {vals : List Value} {S : Value → Heap → Prop}
    (hw : Region.wanted o (yielded ops (fr n σ).tmps) = true) (ho : o.op = .call { callee := .value (.func f), args := l.toArray, argTypes := ats })
    (hv : l.map (ev n σ) = vals) (hc : Ret P f vals h S) (hl : ∀ v h', S v h' → L P w0 n ops .seq Φ rest (put σ o.dst v) h') : L P w0 n ops .seq Φ (o :: rest) σ h := by
  refine ⟨fun d => ?_⟩
  unfold wpList
  rw [if_pos hw]
  refine .inl ?_
  unfold Oper.wp
  rw [exec_call he ho hv, Oper.upon_enter]
  refine (hc (wld w0 h d) rfl).mono ?_
  rintro e w' ⟨v, rfl, h', d', rfl, hS⟩
  show wpList _ _ _ _ ((fr n σ).put o.dst v) _
  rw [fr_put]
  exact (hl _ _ hS).out d'
theorem L.call {f : FuncId} [he : Enters P f] {dst : Option Nat} {ty : TypeId} {pos : String} {after : Array Edge} {rest : List Oper} {l : List Operand} {ats : Array TypeId} {vals : List Value} {S : Value → Heap → Prop}
    (hv : l.map (ev n σ) = vals) (hc : Ret P f vals h S) (hl : ∀ v h', S v h' → L P w0 n ops .seq Φ rest (put σ dst v) h') :
    L P w0 n ops .seq Φ (⟨dst, .call { callee := .value (.func f), args := l.toArray, argTypes := ats }, ty, pos, after, none⟩ :: rest) σ h := .callw rfl rfl hv hc hl
theorem L.c1 {f : FuncId} [he : Enters P f] {d : Nat} {ty : TypeId} {pos : String} {after : Array Edge} {rest : List Oper} {l : List Operand} {ats : Array TypeId} {vals : List Value} {S : Value → Heap → Prop}
    (hv : l.map (ev n σ) = vals) (hc : Ret P f vals h S) (hl : ∀ v h', S v h' → L P w0 n ops .seq Φ rest (upd σ d v) h') :
    L P w0 n ops .seq Φ (⟨some d, .call { callee := .value (.func f), args := l.toArray, argTypes := ats }, ty, pos, after, none⟩ :: rest) σ h := .callw rfl rfl hv hc hl
theorem L.c0 {f : FuncId} [he : Enters P f] {ty : TypeId} {pos : String} {after : Array Edge} {rest : List Oper} {l : List Operand} {ats : Array TypeId} {vals : List Value} {S : Value → Heap → Prop}
    (hv : l.map (ev n σ) = vals) (hc : Ret P f vals h S) (hl : ∀ v h', S v h' → L P w0 n ops .seq Φ rest σ h') :
    L P w0 n ops .seq Φ (⟨none, .call { callee := .value (.func f), args := l.toArray, argTypes := ats }, ty, pos, after, none⟩ :: rest) σ h := .callw rfl rfl hv hc hl
/-- a call that only reads, in any kind of list -/
theorem L.callq {f : FuncId} [he : Enters P f] {dst : Option Nat} {ty : TypeId} {pos : String} {after : Array Edge} {rest : List Oper} {l : List Operand} {ats : Array TypeId} {vals : List Value} {v : Value} {g : Option (Nat × Bool)}
    (hm : m ≠ .still) (hw : Region.wanted ⟨dst, .call { callee := .value (.func f), args := l.toArray, argTypes := ats }, ty, pos, after, g⟩ (yielded ops (fr n σ).tmps) = true)
    (hv : l.map (ev n σ) = vals) (hc : RetQ P f vals h v) (hl : L P w0 n ops m Φ rest (put σ dst v) h) :
    L P w0 n ops m Φ (⟨dst, .call { callee := .value (.func f), args := l.toArray, argTypes := ats }, ty, pos, after, g⟩ :: rest) σ h := by
  cases m with
  | seq => exact L.callw hw rfl hv hc.ret (by rintro u h' ⟨rfl, rfl⟩; exact hl)
  | still => exact absurd rfl hm
  | quiet =>
    refine ⟨?_⟩
    show wpQuiet _ _ _ _ (_ :: _) _
    unfold wpQuiet
    rw [if_pos hw]
    refine ⟨v, ?_, by rw [fr_put]; exact hl.out⟩
    rintro w ⟨d, rfl⟩
    unfold Oper.quietAt
    rw [exec_call he rfl hv]
    exact ⟨rfl, (hc (wld w0 h d) rfl).mono fun e w' ⟨h1, d', h2⟩ => ⟨h1, d', h2⟩⟩

theorem L.cq {f : FuncId} [he : Enters P f] {d : Nat} {ty : TypeId} {pos : String} {after : Array Edge} {rest : List Oper} {l : List Operand} {ats : Array TypeId} {vals : List Value} {v : Value}
    (hv : l.map (ev n σ) = vals) (hc : RetQ P f vals h v) (hl : L P w0 n ops .seq Φ rest (upd σ d v) h) :
    L P w0 n ops .seq Φ (⟨some d, .call { callee := .value (.func f), args := l.toArray, argTypes := ats }, ty, pos, after, none⟩ :: rest) σ h := L.callq (by intro h; cases h) rfl hv hc hl
theorem L.cqq {f : FuncId} [he : Enters P f] {d : Nat} {ty : TypeId} {pos : String} {after : Array Edge} {rest : List Oper} {l : List Operand} {ats : Array TypeId} {vals : List Value} {v : Value}
    (hv : l.map (ev n σ) = vals) (hc : RetQ P f vals h v) (hl : L P w0 n ops .quiet Φ rest (upd σ d v) h) :
    L P w0 n ops .quiet Φ (⟨some d, .call { callee := .value (.func f), args := l.toArray, argTypes := ats }, ty, pos, after, none⟩ :: rest) σ h := L.callq (by intro h; cases h) rfl hv hc hl

/-! ### Entering a function, and leaving it -/
/-- what a function hands back: its result slots -/
def leave (P : Program) (n : Nat) (fn : Func) (S : Value → Heap → Prop) : Post
  | .normal, σ, h | .ret, σ, h => ∃ v, (∀ w : World, w.heap = h → (results fn (fr n σ).tmps).run P w = .ok v w) ∧ S v h
  | _, _, _ => False
theorem Ret.enter {f : FuncId} {fn : Func} {c : Code} {nt : Nat} {args : List Value} {S : Value → Heap → Prop} (hf : P.funcs[f]? = some fn) (hb : fn.body = some c) (hn : fn.ntmps = nt) (hl : args.length ≤ nt)
    (hc : ∀ w0, C P w0 nt c (leave P nt fn S) (ini args) h) : Ret P f args h S := by
  intro w hw
  subst hw
  refine calls_of_wp hf hb ?_
  rw [hn, fr_ini nt args hl]
  refine wp_mono ((hc w).out w.drawn) ?_
  rintro e a w' ⟨σ, h, d, rfl, rfl, hh⟩
  cases e with
  | normal => obtain ⟨v, hr, hS⟩ := hh; exact ⟨rfl, v, hr _ rfl, v, rfl, h, d, rfl, hS⟩
  | ret => obtain ⟨v, hr, hS⟩ := hh; exact ⟨rfl, v, hr _ rfl, v, rfl, h, d, rfl, hS⟩
  | _ => exact hh.elim
theorem tmps_getD (t : Nat) : (fr n σ).tmps.getD t undef = ev n σ (.tmp t) := by rw [← fr_eval]; rfl
theorem leave1 {fn : Func} {t : Nat} {S : Value → Heap → Prop} {v : Value} (hr : fn.results = #[.tmp t]) (hv : ev n σ (.tmp t) = v) (hS : S v h) : leave P n fn S .ret σ h :=
  ⟨v, fun w _ => by rw [results_tmp hr, tmps_getD, hv], hS⟩
theorem leave1n {fn : Func} {t : Nat} {S : Value → Heap → Prop} {v : Value} (hr : fn.results = #[.tmp t]) (hv : ev n σ (.tmp t) = v) (hS : S v h) : leave P n fn S .normal σ h :=
  ⟨v, fun w _ => by rw [results_tmp hr, tmps_getD, hv], hS⟩
theorem leave0 {fn : Func} {S : Value → Heap → Prop} (hr : fn.results = #[]) (hS : S (.tuple #[]) h) : leave P n fn S .normal σ h := ⟨_, fun w _ => results_none hr _ _ _, hS⟩
theorem leave0r {fn : Func} {S : Value → Heap → Prop} (hr : fn.results = #[]) (hS : S (.tuple #[]) h) : leave P n fn S .ret σ h := ⟨_, fun w _ => results_none hr _ _ _, hS⟩
theorem leave2 {fn : Func} {t u : Nat} {S : Value → Heap → Prop} {v v' : Value} (hr : fn.results = #[.tmp t, .tmp u]) (hv : ev n σ (.tmp t) = v) (hv' : ev n σ (.tmp u) = v') (hS : S (.tuple #[v, v']) h) : leave P n fn S .ret σ h :=
  ⟨_, fun w _ => by rw [results_tmp2 hr, tmps_getD, tmps_getD, hv, hv'], hS⟩
theorem Th.nn {A : Slots → Heap → Prop} (hh : A σ h) : Th A Φ .normal σ h := hh
theorem Th.r {A : Slots → Heap → Prop} (hh : Φ .ret σ h) : Th A Φ .ret σ h := hh
theorem Th.e {A : Slots → Heap → Prop} {id : Nat} (hh : Φ (.exit id) σ h) : Th A Φ (.exit id) σ h := hh
theorem Th.un {A : Slots → Heap → Prop} (hh : Th A Φ .normal σ h) : A σ h := hh
theorem InB.nn {id : Nat} (hh : Φ .normal σ h) : InB id Φ .normal σ h := hh
theorem InB.r {id : Nat} (hh : Φ .ret σ h) : InB id Φ .ret σ h := hh
theorem InB.e {id : Nat} (hh : Φ .normal σ h) : InB id Φ (.exit id) σ h := by simp only [InB, if_true]; exact hh
theorem InB.o {id id' : Nat} (hne : id' ≠ id) (hh : Φ (.exit id') σ h) : InB id Φ (.exit id') σ h := by simp only [InB, if_neg hne]; exact hh
end
attribute [irreducible] Th InB leave
end Go.Proofs.YtoggdigclbcndaaDoor.E
