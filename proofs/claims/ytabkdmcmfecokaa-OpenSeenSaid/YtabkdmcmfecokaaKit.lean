/- Base lemmas of this seat's proofs: worlds that have grown by new blocks; whole blocks; frames; regions that draw their order while memory is made. -/
import Derived.WalkKit
import Derived.WalkSpells
import Derived.WalkLawsBesides
import Derived.BigQuiet
import Derived.Deep.RegionWith
import Derived.Lib.Hide
import Derived.StillTail
namespace Go.Proofs.Ytabkdmcmfecokaa
open Go Go.RowKit

/-- New blocks, and draws. -/
structure Ext where
  objs : Array Obj
  draws : Nat
instance : Inhabited Ext := ⟨⟨#[], 0⟩⟩
/-- 'w' with new blocks behind the old ones, and some draws on. -/
def plus (w : World) (os : Array Obj) (n : Nat) : World := { w with heap := w.heap ++ os, drawn := n }

theorem plus_plus (w : World) (a b : Array Obj) (m n : Nat) : plus (plus w a m) b n = plus w (a ++ b) n := by
  simp [plus]
theorem plus_zero (w : World) : plus w #[] w.drawn = w := by simp [plus]
theorem alloc_plus (w : World) (o : Obj) : w.alloc o = plus w #[o] w.drawn := by
  show ({ w with heap := w.heap.push o } : World) = { w with heap := w.heap ++ #[o], drawn := w.drawn }
  rw [Array.push_eq_append]
theorem drew_plus (w : World) : w.drew = plus w #[] (w.drawn + 1) := by
  show ({ w with drawn := w.drawn + 1 } : World) = { w with heap := w.heap ++ #[], drawn := w.drawn + 1 }
  rw [Array.append_empty]
theorem drewN_plus (w : World) (n : Nat) : w.drewN n = plus w #[] (w.drawn + n) := by
  show ({ w with drawn := w.drawn + n } : World) = { w with heap := w.heap ++ #[], drawn := w.drawn + n }
  rw [Array.append_empty]
@[go_sem, simp] theorem size_plus (w : World) (os : Array Obj) (n : Nat) : (plus w os n).heap.size = w.heap.size + os.size := by simp [plus]
@[go_sem] theorem lt_add_some (a b c : Nat) (h : a < b) : a < b + c := Nat.lt_add_right c h
theorem heap_plus (w : World) (os : Array Obj) (n b : Nat) (h : b < w.heap.size) : (plus w os n).heap[b]? = w.heap[b]? := by
  simp only [plus]; rw [Array.getElem?_append_left h]
@[go_sem] theorem cell_plus (w : World) (os : Array Obj) (n b i : Nat) (h : b < w.heap.size) : (plus w os n).cell? ⟨b, i, none⟩ = w.cell? ⟨b, i, none⟩ := by
  simp only [World.cell?]; rw [heap_plus w os n b h]
@[go_sem] theorem frozen_plus (w : World) (os : Array Obj) (n b i : Nat) (h : b < w.heap.size) : (plus w os n).frozen? ⟨b, i, none⟩ = w.frozen? ⟨b, i, none⟩ := by
  simp only [World.frozen?]; rw [heap_plus w os n b h]

/-- A world that has only grown. -/
def Grew (w w' : World) : Prop := ∃ os n, w' = plus w os n
theorem Grew.refl (w : World) : Grew w w := ⟨#[], w.drawn, (plus_zero w).symm⟩
theorem Grew.trans {a b c : World} (h : Grew a b) (k : Grew b c) : Grew a c := by
  obtain ⟨os, n, rfl⟩ := h; obtain ⟨ps, m, rfl⟩ := k; exact ⟨os ++ ps, m, plus_plus _ _ _ _ _⟩
theorem Grew.plus {a b : World} (h : Grew a b) (os : Array Obj) (n : Nat) : Grew a (plus b os n) := h.trans ⟨os, n, rfl⟩
theorem Grew.alloc {a b : World} (h : Grew a b) (o : Obj) : Grew a (b.alloc o) := h.trans ⟨_, _, alloc_plus b o⟩
theorem Grew.drew {a b : World} (h : Grew a b) : Grew a b.drew := h.trans ⟨_, _, drew_plus b⟩
theorem Grew.drewN {a b : World} (h : Grew a b) (n : Nat) : Grew a (b.drewN n) := h.trans ⟨_, _, drewN_plus b n⟩
theorem Grew.size {a b : World} (h : Grew a b) : a.heap.size ≤ b.heap.size := by obtain ⟨os, n, rfl⟩ := h; simp
theorem Grew.heap {a b : World} (h : Grew a b) {k : Nat} (hk : k < a.heap.size) : b.heap[k]? = a.heap[k]? := by
  obtain ⟨os, n, rfl⟩ := h; exact heap_plus _ _ _ _ hk
/-- A store into a block beyond 'a' keeps it grown. -/
theorem Grew.setCell {a b : World} (h : Grew a b) {p : Addr} (hp : a.heap.size ≤ p.block) (v : Value) : Grew a (b.setCell p v) := by
  obtain ⟨os, n, rfl⟩ := h
  refine ⟨os.modify (p.block - a.heap.size) fun
      | .cells c elem frozen => .cells (if p.spot.isSome then c else c.setIfInBounds p.off v) elem frozen
      | o => o, n, ?_⟩
  simp only [World.setCell, Go.Proofs.Ytabkdmcmfecokaa.plus, World.mk.injEq, and_true]
  apply Array.ext_getElem?
  intro i
  rw [Array.getElem?_modify, Array.getElem?_append, Array.getElem?_append, Array.getElem?_modify]
  by_cases h1 : i < a.heap.size
  · rw [if_neg (by omega), if_pos h1, if_pos h1]
  · simp only [if_neg h1]
    by_cases h2 : p.block = i
    · rw [if_pos h2, if_pos (by omega)]; rfl
    · rw [if_neg h2, if_neg (by omega)]
theorem Grew.setRow {a b : World} (h : Grew a b) {g : Nat} (hp : a.heap.size ≤ g) (cs : Array Value) : Grew a (b.setRow g cs) := by
  obtain ⟨os, n, rfl⟩ := h
  refine ⟨os.modify (g - a.heap.size) fun
      | .cells _ elem frozen => .cells cs elem frozen
      | o => o, n, ?_⟩
  simp only [World.setRow, Go.Proofs.Ytabkdmcmfecokaa.plus, World.mk.injEq, and_true]
  apply Array.ext_getElem?
  intro i
  rw [Array.getElem?_modify, Array.getElem?_append, Array.getElem?_append, Array.getElem?_modify]
  by_cases h1 : i < a.heap.size
  · rw [if_neg (by omega), if_pos h1, if_pos h1]
  · simp only [if_neg h1]
    by_cases h2 : g = i
    · rw [if_pos h2, if_pos (by omega)]; rfl
    · rw [if_neg h2, if_neg (by omega)]
theorem Grew.below {a b : World} (h : Grew a b) : Below a.heap.size a b := by
  obtain ⟨os, n, rfl⟩ := h
  exact ⟨rfl, rfl, rfl, by simp, fun k hk => heap_plus _ _ _ _ hk⟩
theorem Grew.of_below {a b : World} (h : Below a.heap.size a b) : Grew a b := by
  refine ⟨b.heap.extract a.heap.size b.heap.size, b.drawn, ?_⟩
  have e1 := h.os; have e2 := h.tape; have e3 := h.output; have e4 := h.size
  cases b with
  | mk bh bt bd bo bu =>
    simp only [Go.Proofs.Ytabkdmcmfecokaa.plus, World.mk.injEq] at *
    refine ⟨?_, e2, trivial, e1, e3⟩
    apply Array.ext_getElem?
    intro i
    rw [Array.getElem?_append]
    by_cases h1 : i < a.heap.size
    · rw [if_pos h1]; exact h.block i h1
    · rw [if_neg h1, Array.getElem?_extract]
      split
      · rw [show a.heap.size + (i - a.heap.size) = i by omega]
      · rw [Array.getElem?_eq_none]; omega

theorem ret_int {k : IntKind} {a b : Int} (h : a = b) : Ending.returned (.int k a) = .returned (.int k b) := by rw [h]
theorem ret_bool {a b : Bool} (h : a = b) : Ending.returned (.bool a) = .returned (.bool b) := by rw [h]

theorem add_at (b j : Nat) : (⟨b, 0, none⟩ : Addr).add j = ⟨b, j, none⟩ := by unfold Addr.add; split <;> simp_all
/-! ### whole blocks -/
theorem blk_cell {w : World} {b : Nat} {cs : Array Value} {t : TypeId} {fr : Nat × Nat} (h : w.heap[b]? = some (.cells cs t fr)) (i : Nat) : w.cell? ⟨b, i, none⟩ = cs[i]? := by
  simp [World.cell?, h]
theorem blk_free {w : World} {b : Nat} {cs : Array Value} {t : TypeId} (h : w.heap[b]? = some (.cells cs t (0, 0))) (i : Nat) : w.frozen? ⟨b, i, none⟩ = false := by
  simp [World.frozen?, h]
theorem blk_lt {w : World} {b : Nat} {o : Obj} (h : w.heap[b]? = some o) : b < w.heap.size := by
  rcases Nat.lt_or_ge b w.heap.size with h1 | h1
  · exact h1
  · rw [Array.getElem?_eq_none h1] at h; cases h
/-- What a walk wants of a block that is known whole. -/
theorem blk_facts {w : World} {b : Nat} {cs : Array Value} {t : TypeId} (h : w.heap[b]? = some (.cells cs t (0, 0))) :
    (∀ i, w.cell? ⟨b, i, none⟩ = cs[i]?) ∧ (∀ i, w.frozen? ⟨b, i, none⟩ = false) ∧ b < w.heap.size :=
  ⟨blk_cell h, blk_free h, blk_lt h⟩

/-- One cell of a block of cells is written. -/
def Obj.put (i : Nat) (v : Value) : Obj → Obj
  | .cells c elem fr => .cells (c.setIfInBounds i v) elem fr
  | o => o
theorem heap_setCell (w : World) (b i k : Nat) (v : Value) : (w.setCell ⟨b, i, none⟩ v).heap[k]? = if b = k then (w.heap[k]?).map (Obj.put i v) else w.heap[k]? := by
  simp only [World.setCell, Array.getElem?_modify]
  split
  · cases w.heap[k]? with
    | none => rfl
    | some o => cases o <;> rfl
  · rfl
theorem heap_alloc (w : World) (o : Obj) (k : Nat) (h : k < w.heap.size) : (w.alloc o).heap[k]? = w.heap[k]? := Below.heap_alloc w o k h
theorem heap_alloc_at (w : World) (o : Obj) (k : Nat) (h : k = w.heap.size) : (w.alloc o).heap[k]? = some o := by subst h; exact heap_alloc_new w o
theorem heap_drew' (w : World) : w.drew.heap = w.heap := rfl
theorem heap_drewN' (w : World) (n : Nat) : (w.drewN n).heap = w.heap := rfl

theorem grew_of_class {w w' : World} (h : ∃ x : Ext, w' = plus w x.objs x.draws) : Grew w w' := by
  obtain ⟨x, hx⟩ := h; exact ⟨x.objs, x.draws, hx⟩
theorem Grew.blk {w w' : World} (h : Grew w w') {k : Nat} {o : Obj} (hk : w.heap[k]? = some o) : w'.heap[k]? = some o := (h.heap (blk_lt hk)).trans hk
theorem alloc_blk {w : World} {k : Nat} {o : Obj} (x : Obj) (hk : w.heap[k]? = some o) : (w.alloc x).heap[k]? = some o := (heap_alloc w x k (blk_lt hk)).trans hk
theorem alloc_new (w : World) (o : Obj) : (w.alloc o).heap[w.heap.size]? = some o := heap_alloc_at w o _ rfl
theorem set_blk {w : World} {k : Nat} {o : Obj} (b i : Nat) (v : Value) (hk : w.heap[k]? = some o) (hne : k ≠ b) : (w.setCell ⟨b, i, none⟩ v).heap[k]? = some o := by
  rw [heap_setCell, if_neg (Ne.symm hne)]; exact hk
theorem set_same {w : World} {k : Nat} {cs : Array Value} {t : TypeId} {fr : Nat × Nat} (i : Nat) (v : Value) (hk : w.heap[k]? = some (.cells cs t fr)) : (w.setCell ⟨k, i, none⟩ v).heap[k]? = some (.cells (cs.setIfInBounds i v) t fr) := by
  rw [heap_setCell, if_pos rfl, hk]; rfl
theorem drew_blk {w : World} {k : Nat} {o : Obj} (hk : w.heap[k]? = some o) : w.drew.heap[k]? = some o := hk

/-- 'w'' is 'w' but for the blocks of 'S', new blocks, and draws. -/
structure Fr (S : List Nat) (w w' : World) : Prop where
  os : w'.os = w.os
  tape : w'.tape = w.tape
  output : w'.output = w.output
  size : w.heap.size ≤ w'.heap.size
  heap : ∀ k, k < w.heap.size → k ∉ S → w'.heap[k]? = w.heap[k]?
theorem Fr.refl (S : List Nat) (w : World) : Fr S w w := ⟨rfl, rfl, rfl, Nat.le_refl _, fun _ _ _ => rfl⟩
theorem Fr.trans {S : List Nat} {a b c : World} (h : Fr S a b) (k : Fr S b c) : Fr S a c :=
  ⟨k.os.trans h.os, k.tape.trans h.tape, k.output.trans h.output, Nat.le_trans h.size k.size, fun i hi hs => (k.heap i (Nat.lt_of_lt_of_le hi h.size) hs).trans (h.heap i hi hs)⟩
theorem Fr.mono {S T : List Nat} {a b : World} (h : Fr S a b) (hs : ∀ x, x ∈ S → x ∈ T ∨ a.heap.size ≤ x) : Fr T a b :=
  ⟨h.os, h.tape, h.output, h.size, fun i hi hT => h.heap i hi fun hS => (hs i hS).elim hT (fun h' => by omega)⟩
theorem Fr.of_grew {S : List Nat} {a b : World} (h : Grew a b) : Fr S a b := by
  obtain ⟨os, n, rfl⟩ := h
  exact ⟨rfl, rfl, rfl, by simp, fun k hk _ => heap_plus _ _ _ _ hk⟩
theorem Fr.grew {S : List Nat} {a b c : World} (h : Fr S a b) (k : Grew b c) : Fr S a c := h.trans (Fr.of_grew k)
theorem Fr.alloc {S : List Nat} {a b : World} (h : Fr S a b) (o : Obj) : Fr S a (b.alloc o) := h.grew ((Grew.refl b).alloc o)
theorem Fr.drew {S : List Nat} {a b : World} (h : Fr S a b) : Fr S a b.drew := h.grew (Grew.refl b).drew
theorem Fr.drewN {S : List Nat} {a b : World} (h : Fr S a b) (n : Nat) : Fr S a (b.drewN n) := h.grew ((Grew.refl b).drewN n)
theorem Fr.plus {S : List Nat} {a b : World} (h : Fr S a b) (os : Array Obj) (n : Nat) : Fr S a (plus b os n) := h.grew ⟨os, n, rfl⟩
theorem Fr.setCell {S : List Nat} {a b : World} (h : Fr S a b) (p : Nat) (i : Nat) (v : Value) (hp : p ∈ S ∨ a.heap.size ≤ p) : Fr S a (b.setCell ⟨p, i, none⟩ v) :=
  ⟨h.os, h.tape, h.output, by simpa using h.size, fun k hk hS => by
    rw [heap_setCell, if_neg (fun e => by subst e; exact hp.elim hS (fun h' => by omega))]; exact h.heap k hk hS⟩
theorem Fr.to_grew {a b : World} (h : Fr [] a b) : Grew a b :=
  Grew.of_below ⟨h.os, h.tape, h.output, h.size, fun k hk => h.heap k hk (List.not_mem_nil)⟩
theorem Fr.keep {S : List Nat} {a b : World} (h : Fr S a b) {k : Nat} {o : Obj} (hk : a.heap[k]? = some o) (hS : k ∉ S) : b.heap[k]? = some o :=
  (h.heap k (blk_lt hk) hS).trans hk

/-! ### regions that draw their order, in the class of grown worlds -/
attribute [go_sem] Oper.quiet Oper.quietAt Oper.quietUpon
theorem wp_region_plus {P : Program} {id : Nat} {Q : Exit → Act → World → Prop} {a : Act} {w : World} {l : List Oper} (hm : P.follows .mixedOrders = true) (hB : Region.lexB .any l.toArray = true)
    (h : wpQuiet P l.toArray (fun w' => ∃ x : Ext, w' = plus w x.objs x.draws) (fun a' => ∀ w', (∃ x : Ext, w' = plus w x.objs x.draws) → Q .normal a' w') l a) : (Code.region id l.toArray true).wp P Q a w :=
  wp_region_quiet (C := fun w' => ∃ x : Ext, w' = plus w x.objs x.draws) hm hB ⟨⟨#[], w.drawn + 1⟩, by simp [plus]⟩ (by simpa using h)
/-- A contract of a callee that makes memory alone, met in such a region. -/
theorem quiet_plus {P : Program} {f : FuncId} {args : Array Value} {w : World} {x : Ext} {v : Value}
    (h : Calls P f args (plus w x.objs x.draws) fun e w' => e = .returned v ∧ Grew (plus w x.objs x.draws) w') : Calls P f args (plus w x.objs x.draws) fun e w'' => e = .returned v ∧ ∃ x : Ext, w'' = plus w x.objs x.draws :=
  h.mono fun _ _ ⟨he, ps, m, hm⟩ => ⟨he, ⟨x.objs ++ ps, m⟩, by rw [hm, plus_plus]⟩

/-! ### a region that draws its order, by what holds of each slot once it has been written -/
def slotOf (a : Act) (d : Option Tmp) : Value := match d with | some k => a.tmps.getD k undef | none => undef
def keepv (d : Option Tmp) (v : Value) : Value := match d with | some _ => v | none => undef
def writes (l : List Oper) (k : Nat) : Bool := l.any fun o => o.dst == some k
def invFrom (m : Nat) : Nat → List Nat → List Oper → Bool
  | _, _, [] => true
  | i, seen, o :: r => o.guard.isNone && o.after.all (fun e => decide (e.on < i) && Region.binds .any e) &&
    (match o.dst with | some d => decide (d < m) && !seen.contains d | none => true) && invFrom m (i + 1) ((match o.dst with | some d => [d] | none => []) ++ seen) r
theorem invFrom_spec {m : Nat} : ∀ (l : List Oper) (i : Nat) (seen : List Nat), invFrom m i seen l = true → ∀ j o, l[j]? = some o →
    o.guard = none ∧ (∀ e ∈ o.after, e.on < i + j ∧ Region.binds .any e = true) ∧ (∀ d, o.dst = some d → d < m ∧ d ∉ seen ∧ ∀ j' o', l[j']? = some o' → o'.dst = some d → j' = j)
  | [], _, _, _, j, o, hj => by simp at hj
  | x :: r, i, seen, h, j, o, hj => by
    simp only [invFrom, Bool.and_eq_true] at h
    obtain ⟨⟨⟨h1, h2⟩, h3⟩, h4⟩ := h
    have ih := invFrom_spec r _ _ h4
    cases j with
    | zero =>
      simp at hj; subst hj
      refine ⟨by simpa using h1, fun e he => ?_, fun d hd => ?_⟩
      · have := Array.all_eq_true'.1 h2 e he
        simp only [Bool.and_eq_true, decide_eq_true_eq] at this
        exact ⟨by omega, this.2⟩
      · rw [hd] at h3
        simp only [Bool.and_eq_true, decide_eq_true_eq, Bool.not_eq_true'] at h3
        refine ⟨h3.1, by simpa using h3.2, fun j' o' hj' ho' => ?_⟩
        cases j' with
        | zero => rfl
        | succ j' =>
          have := (ih j' o' (by simpa using hj')).2.2 d ho'
          simp [hd] at this
    | succ j =>
      have hj' : r[j]? = some o := by simpa using hj
      obtain ⟨g1, g2, g3⟩ := ih j o hj'
      refine ⟨g1, fun e he => ?_, fun d hd => ?_⟩
      · have := g2 e he; exact ⟨by omega, this.2⟩
      · obtain ⟨k1, k2, k3⟩ := g3 d hd
        simp only [List.mem_append, not_or] at k2
        refine ⟨k1, k2.2, fun j' o' hj'' ho' => ?_⟩
        cases j' with
        | zero =>
          simp at hj''; subst hj''
          rw [ho'] at k2
          simp at k2
        | succ j' => rw [k3 j' o' (by simpa using hj'') ho']
theorem getD_put_same {a : Act} {d : Tmp} {v : Value} (h : d < a.tmps.size) : (a.put (some d) v).tmps.getD d undef = v := by
  simp [Act.put, h]
theorem getD_put_other {a : Act} {d : Option Tmp} {k : Nat} {v : Value} (h : d ≠ some k) : (a.put d v).tmps.getD k undef = a.tmps.getD k undef := by
  cases d with
  | none => rfl
  | some d =>
    have hne : d ≠ k := fun e => h (by rw [e])
    simp [Act.put, Array.getElem?_setIfInBounds_ne hne]
theorem size_put {a : Act} {d : Option Tmp} {v : Value} : (a.put d v).tmps.size = a.tmps.size := by cases d <;> simp [Act.put]
theorem defers_put {a : Act} {d : Option Tmp} {v : Value} : (a.put d v).defers = a.defers := by cases d <;> simp [Act.put]

structure RInv (l : List Oper) (C : World → Prop) (Φ : Nat → Value → World → Prop) (a0 : Act) (listed : Array Bool) (a : Act) (W : World) : Prop where
  cls : C W
  size : a.tmps.size = a0.tmps.size
  defers : a.defers = a0.defers
  other : ∀ k, writes l k = false → a.tmps.getD k undef = a0.tmps.getD k undef
  done : ∀ j o, l[j]? = some o → listed.getD j false = true → Φ j (slotOf a o.dst) W

theorem wp_region_inv {P : Program} {id : Nat} {l : List Oper} {a0 : Act} {w0 : World} {Q : Exit → Act → World → Prop} (C : World → Prop) (R : World → World → Prop) (Φ : Nat → Value → World → Prop)
    (hm : P.follows .mixedOrders = true) (hok : invFrom a0.tmps.size 0 [] l = true) (hst : ∀ j v W W', R W W' → Φ j v W → Φ j v W') (hC0 : C { w0 with drawn := w0.drawn + 1 })
    (vc : ∀ (i : Nat) (o : Oper), l[i]? = some o → ∀ (a : Act) (W : World), C W → a.tmps.size = a0.tmps.size → (∀ k, writes l k = false → a.tmps.getD k undef = a0.tmps.getD k undef) →
      (∀ e ∈ o.after, Φ e.on (slotOf a ((l[e.on]?).bind (·.dst))) W) →
      o.wp P a W (fun a' W' => ∃ v, a' = a.put o.dst v ∧ Φ i (keepv o.dst v) W' ∧ C W' ∧ R W W') (fun _ _ _ => False))
    (hend : ∀ (a : Act) (W : World), C W → a.tmps.size = a0.tmps.size → a.defers = a0.defers → (∀ k, writes l k = false → a.tmps.getD k undef = a0.tmps.getD k undef) →
      (∀ (j : Nat) (o : Oper), l[j]? = some o → Φ j (slotOf a o.dst) W) → Q .normal a W) : (Code.region id l.toArray true).wp P Q a0 w0 := by
  refine wp_region_any hm ?_
  have spec := invFrom_spec l 0 [] hok
  have main : ∀ (fuel : Nat) (listed : Array Bool) (a : Act) (W : World), listed.size = l.length → (List.range l.length).countP (fun j => !listed.getD j false) = fuel → RInv l C Φ a0 listed a W →
      wpAny P .any l.toArray Q fuel listed a W := by
    intro fuel
    induction fuel with
    | zero =>
      intro listed a W hs hc inv
      have hall : ∀ j, j < l.length → listed.getD j false = true := fun j hj => by
        have h0 := List.countP_eq_zero.1 hc j (List.mem_range.2 hj)
        simpa using h0
      refine ⟨?_, hend a W inv.cls inv.size inv.defers inv.other fun j o hj => inv.done j o hj (hall j (List.getElem?_eq_some_iff.1 hj).1)⟩
      rcases List.eq_nil_or_concat (Region.ready .any l.toArray listed) with h | ⟨xs, x, hx⟩
      · exact h
      · exfalso
        have hmem : x ∈ Region.ready .any l.toArray listed := by rw [hx]; simp
        obtain ⟨h1, o, h2, _⟩ := mem_ready.1 hmem
        have hlt : x < l.length := by simpa using (Array.getElem?_eq_some_iff.1 h2).1
        have h3 := hall x hlt
        have : x < listed.size := by omega
        simp [this] at h1 h3
        rw [h1] at h3; cases h3
    | succ fuel ih =>
      intro listed a W hs hc inv
      refine ⟨fun h0 => ?_, fun i hi => ?_⟩
      · exfalso
        have hex : ∃ j, j < l.length ∧ listed.getD j false = false := by
          have : 0 < (List.range l.length).countP (fun j => !listed.getD j false) := by omega
          obtain ⟨j, hj, hj2⟩ := List.countP_pos_iff.1 this
          exact ⟨j, List.mem_range.1 hj, by simpa using hj2⟩
        have hstrong : ∀ n j, j = n → j < l.length → listed.getD j false = false → False := by
          intro n
          induction n using Nat.strongRecOn with
          | _ n ihn =>
            intro j hjn hj hun
            have hnot : j ∉ Region.ready .any l.toArray listed := by rw [h0]; simp
            apply hnot
            have ho : l[j]? = some l[j] := List.getElem?_eq_getElem hj
            refine mem_ready.2 ⟨by simp [hs, hj] at hun ⊢; exact hun, l[j], by simp [hj], fun e he hb => ?_⟩
            have hlt := ((spec j l[j] ho).2.1 e he).1
            cases hl : listed.getD e.on false with
            | true => rfl
            | false => exact (ihn e.on (by omega) e.on rfl (by omega) hl).elim
        obtain ⟨j, hj, hun⟩ := hex
        exact hstrong j j rfl hj hun
      · obtain ⟨h1, o, h2, h3⟩ := mem_ready.1 hi
        have hlo : l[i]? = some o := by simpa using h2
        have hlt : i < l.length := (List.getElem?_eq_some_iff.1 hlo).1
        have hun : listed.getD i false = false := getD_both h1
        obtain ⟨sg, se, sd⟩ := spec i o hlo
        unfold wpOp
        simp only [h2]
        rw [if_pos (by simp [Region.wanted, sg])]
        refine .inl ?_
        have hv := vc i o hlo a W inv.cls inv.size inv.other (fun e he => by
          have hlt2 : e.on < l.length := by have := (se e he).1; omega
          have hl2 : l[e.on]? = some l[e.on] := List.getElem?_eq_getElem hlt2
          rw [hl2]; exact inv.done e.on _ hl2 (h3 e he (se e he).2))
        have next : ∀ v W', Φ i (keepv o.dst v) W' → C W' → R W W' → wpAny P .any l.toArray Q fuel (listed.setIfInBounds i true) (a.put o.dst v) W' := by
          intro v W' hΦ hC hR
          refine ih _ _ _ (by simp [hs]) ?_ ⟨hC, by rw [size_put]; exact inv.size, by rw [defers_put]; exact inv.defers, fun k hk => ?_, fun j o' hj hl => ?_⟩
          · have e1 : (List.range l.length).countP (fun j => !(listed.setIfInBounds i true).getD j false) + 1 = (List.range l.length).countP (fun j => !listed.getD j false) := by
              clear ih hv inv h3 hi
              have hx : i < listed.size := by omega
              generalize l.length = n at hlt
              induction n with
              | zero => omega
              | succ n ihn =>
                rw [List.range_succ, List.countP_append, List.countP_append]
                by_cases hin : i = n
                · subst hin
                  have e2 : (List.range i).countP (fun j => !(listed.setIfInBounds i true).getD j false) = (List.range i).countP (fun j => !listed.getD j false) := by
                    apply List.countP_congr
                    intro j hj
                    rw [getD_set_ne false (by have := List.mem_range.1 hj; omega)]
                  rw [e2]
                  have e3 : (listed.setIfInBounds i true).getD i false = true := by simp [hx]
                  simp only [List.countP_cons, List.countP_nil]
                  rw [e3, hun]; simp
                · have := ihn (by omega)
                  have e3 : (listed.setIfInBounds i true).getD n false = listed.getD n false := getD_set_ne false hin
                  simp only [List.countP_cons, List.countP_nil]
                  rw [e3]; omega
            omega
          · rw [getD_put_other (fun e => ?_)]
            · exact inv.other k hk
            · have : writes l k = true := List.any_eq_true.2 ⟨o, List.mem_of_getElem? hlo, by simp [e]⟩
              rw [this] at hk; cases hk
          · by_cases hji : j = i
            · subst hji
              have : o' = o := Option.some.inj (hj.symm.trans hlo)
              subst this
              cases hd : o'.dst with
              | none => rw [hd] at hΦ; exact hΦ
              | some d =>
                rw [hd] at hΦ
                have hb := (sd d hd).1
                show Φ j ((a.put (some d) v).tmps.getD d undef) W'
                rw [getD_put_same (by rw [inv.size]; exact hb)]
                exact hΦ
            · rw [getD_set_ne false (Ne.symm hji)] at hl
              have h4 := hst _ _ _ _ hR (inv.done j o' hj hl)
              have e4 : slotOf (a.put o.dst v) o'.dst = slotOf a o'.dst := by
                cases hd' : o'.dst with
                | none => rfl
                | some d' =>
                  show (a.put o.dst v).tmps.getD d' undef = a.tmps.getD d' undef
                  exact getD_put_other fun e => hji ((sd d' e).2.2 j o' hj hd')
              rw [e4]; exact h4
        unfold Oper.wp at hv ⊢
        generalize (execOp a.eval o).run P W = r at hv
        cases r with
        | ok nx w' =>
          cases nx with
          | value u => obtain ⟨v, e, x1, x2, x3⟩ := hv; show wpAny _ _ _ _ _ _ (a.put o.dst u) w'; rw [e]; exact next v w' x1 x2 x3
          | skip => obtain ⟨v, e, x1, x2, x3⟩ := hv; show wpAny _ _ _ _ _ _ (a.put o.dst undef) w'; rw [e]; exact next v w' x1 x2 x3
          | «defer» d => obtain ⟨v, e, x1, x2, x3⟩ := hv; show wpAny _ _ _ _ _ _ _ w'; rw [e]; exact next v w' x1 x2 x3
          | enter f args =>
            refine Calls.mono hv fun e w'' he => ?_
            cases e with
            | returned u => obtain ⟨v, e, x1, x2, x3⟩ := he; show wpAny _ _ _ _ _ _ (a.put o.dst u) w''; rw [e]; exact next v w'' x1 x2 x3
            | panicked c => exact he.elim
            | outgrown => exact (he.elim fun _ h' => (h'.elim fun _ h'' => False.elim h''))
          | row row args =>
            refine Rows.mono hv fun u w'' he => ?_
            obtain ⟨v, e, x1, x2, x3⟩ := he; show wpAny _ _ _ _ _ _ (a.put o.dst u) w''; rw [e]; exact next v w'' x1 x2 x3
          | _ => exact hv.elim
        | halt h w' => cases h <;> exact (by first | exact hv.elim | exact hv)
  refine main l.toArray.size _ a0 _ (by simp) ?_ ⟨hC0, rfl, rfl, fun _ _ => rfl, fun j o hj hl => ?_⟩
  · rw [List.countP_eq_length.2]
    · simp
    · intro j hj
      have : j < l.length := by simpa using hj
      simp [this]
  · have : j < l.length := (List.getElem?_eq_some_iff.1 hj).1
    simp [this] at hl

theorem eval_tmp' (a : Act) (k : Nat) : a.eval (.tmp k) = a.tmps[k]?.getD undef := by simp [Act.eval]

/-- A frame of a known number of slots, written out. -/
theorem frame_lit {a : Act} {n : Nat} (h : a.tmps.size = n) (hd : a.defers = []) : a = { tmps := ((List.range n).map fun k => a.tmps.getD k undef).toArray, defers := [] } := by
  obtain ⟨t, d⟩ := a
  simp only at h hd
  subst hd
  congr 1
  apply Array.ext_getElem?
  intro i
  subst h
  rcases Nat.lt_or_ge i t.size with h1 | h1
  · simp [h1]
  · simp [h1]

/-! ### the same, with a tail in one forced order: what comes ahead of it only makes memory -/
section
variable {P : Program} {ops : Array Oper} {md : Region.Mode} {C : World → Prop}
def anyHead (P : Program) (md : Region.Mode) (ops : Array Oper) (C : World → Prop) (n : Nat) (L : Array Bool → Act → Prop) : Nat → Array Bool → Act → Prop
  | 0, listed, a => L listed a
  | f + 1, listed, a => Region.ready md ops listed ≠ [] ∧ ∀ i ∈ Region.ready md ops listed, i < n ∧ qOp P ops C i (anyHead P md ops C n L f (listed.setIfInBounds i true)) a
theorem any_of_head {n g : Nat} {L : Array Bool → Act → Prop} {Q' : Exit → Act → World → Prop} (hL : ∀ listed a w, C w → L listed a → wpAny P md ops Q' g listed a w) :
    ∀ (f : Nat) (listed : Array Bool) (a : Act) (w : World), C w → anyHead P md ops C n L f listed a → wpAny P md ops Q' (f + g) listed a w
  | 0, listed, a, w, hw, h => by rw [Nat.zero_add]; exact hL _ _ _ hw h
  | f + 1, listed, a, w, hw, h => by
    rw [show f + 1 + g = (f + g) + 1 by omega]
    exact ⟨fun h0 => absurd h0 h.1, fun i hi => wpOp_of_qOp hw (fun a' w' hw' h' => any_of_head hL f _ a' w' hw' h') (h.2 i hi).2⟩
theorem anyHead_first {n i : Nat} {oi : Oper} {v : Value} {L : Array Bool → Act → Prop} (hi : ops[i]? = some oi) (hsel : ∀ (j : Nat) (o : Oper) cs b, ops[j]? = some o → o.op ≠ .select cs b)
    (hs : Region.sinkB md ops n = true) (hc : Region.chainB md ops n = true) (hn : n < ops.size) (hin : i < n)
    (hdone : ∀ listed a, L listed a → ∀ j ∈ Region.ready md ops listed, n ≤ j) :
    ∀ (f : Nat) (listed : Array Bool) (a : Act), HeadInv md ops n listed →
      (∀ j oj, ops[j]? = some oj → j ≠ i → listed.getD j true = false → (∀ e ∈ oj.after, Region.binds md e = true → e.on ≠ i) → oi.apart ops oj = true) →
      i ∈ Region.ready md ops listed → YieldsIn P ops C oi v a →
      anyHead P md ops C n L f (listed.setIfInBounds i true) (a.put oi.dst v) → anyHead P md ops C n L (f + 1) listed a := by
  intro f
  induction f with
  | zero =>
    intro listed a inv _ hr hy H
    have hun := (mem_ready.1 hr).1
    refine ⟨fun h => (by rw [h] at hr; cases hr), fun j hj => ?_⟩
    have hjn : j < n := by
      rcases Nat.lt_or_ge j n with h | h
      · exact h
      · exact absurd hj (tail_waits hs hc hn inv _ i rfl hin hun j h)
    refine ⟨hjn, ?_⟩
    by_cases hji : j = i
    · subst hji; exact hy.qOp hi H
    · have := hdone _ _ H j (ready_mono hj hji)
      omega
  | succ f ih =>
    intro listed a inv hfree hr hy H
    have hun := (mem_ready.1 hr).1
    refine ⟨fun h => (by rw [h] at hr; cases hr), fun j hj => ?_⟩
    have hjn : j < n := by
      rcases Nat.lt_or_ge j n with h | h
      · exact h
      · exact absurd hj (tail_waits hs hc hn inv _ i rfl hin hun j h)
    refine ⟨hjn, ?_⟩
    by_cases hji : j = i
    · subst hji; exact hy.qOp hi H
    · have h1 := (H.2 j (ready_mono hj hji)).2
      obtain ⟨hjun, oj, hoj, hall⟩ := mem_ready.1 hj
      have hnot : ∀ e ∈ oj.after, Region.binds md e = true → e.on ≠ i := fun e he hb heq => by
        have h1 := hall e he hb
        rw [heq, getD_both hun] at h1
        cases h1
      have h2 := qOp_put hoj (hfree j oj hoj hji hjun hnot) (fun cs b => hsel i oi cs b hi) (fun cs b => hsel j oj cs b hoj) hy h1
      have hfree' : ∀ k ok, ops[k]? = some ok → k ≠ i → (listed.setIfInBounds j true).getD k true = false →
          (∀ e ∈ ok.after, Region.binds md e = true → e.on ≠ i) → oi.apart ops ok = true := fun k ok hk hki hun hno => by
        refine hfree k ok hk hki ?_ hno
        by_cases hjk : j = k
        · subst hjk; exact hjun
        · rw [getD_set_ne true hjk] at hun; exact hun
      refine qOp_mono (fun a' h3 => ih (listed.setIfInBounds j true) a' (inv.set hj hjn) hfree' (ready_mono hr (Ne.symm hji)) h3.1 ?_) h2
      rw [Array.setIfInBounds_comm _ _ hji]
      exact h3.2
theorem anyHead_lex {n g : Nat} {Lq : Act → Prop} (hsel : Region.noSelect ops = true) (hs : Region.sinkB md ops n = true) (hc : Region.chainB md ops n = true) (hn : n < ops.size) :
    ∀ (l : List Oper) (k : Nat) (listed : Array Bool) (a : Act), (∀ j, j < l.length → l[j]? = ops[k + j]?) → k + l.length = n → HeadInv md ops n listed →
    Region.lexHead md ops g l.length k listed = true → wpQuiet P ops C Lq l a →
    anyHead P md ops C n (fun listed' a' => Region.seqB md ops g n listed' = true ∧ Lq a') l.length listed a
  | [], k, listed, a, _, hk, _, hB, h => by
    have : k = n := by simpa using hk
    subst this
    exact ⟨by simpa [Region.lexHead] using hB, h⟩
  | o :: l, k, listed, a, hl, hk, inv, hB, h => by
    have h0 : ops[k]? = some o := by simpa using (hl 0 (by simp)).symm
    simp only [List.length_cons, Region.lexHead, Bool.and_eq_true] at hB
    obtain ⟨⟨hr, hf⟩, hB'⟩ := hB
    have hkn : k < n := by simp only [List.length_cons] at hk; omega
    have hr' : k ∈ Region.ready md ops listed := by simpa using hr
    have hst : qOp P ops C k (wpQuiet P ops C Lq l) a := by unfold qOp; simp only [h0]; exact h
    obtain ⟨v, hy, hK⟩ := yieldsIn_of_qOp h0 hst
    exact anyHead_first h0 (Region.noSelect_spec hsel) hs hc hn hkn (fun listed' a' hL => seqB_ready hL.1) l.length listed a inv (Region.free_spec h0 hf) hr' hy
      (anyHead_lex hsel hs hc hn l (k + 1) _ _ (fun j hj => by have := hl (j + 1) (by simp; omega); simpa [Nat.add_assoc, Nat.add_comm 1 j] using this) (by simp only [List.length_cons] at hk; omega) (inv.set hr' hkn) hB' hK)
end
theorem wp_region_tail {P : Program} {id : Nat} {Q : Exit → Act → World → Prop} {a : Act} {w : World} {l : List Oper} (n : Nat) (hm : P.follows .mixedOrders = true) (hB : Region.lexTailB .any l.toArray n = true)
    (h : wpQuiet P l.toArray (fun w' => ∃ x : Ext, w' = plus w x.objs x.draws) (fun a' => ∀ w', (∃ x : Ext, w' = plus w x.objs x.draws) → wpList P l.toArray Q (l.drop n) a' w') (l.take n) a) : (Code.region id l.toArray true).wp P Q a w := by
  simp only [Region.lexTailB, Bool.and_eq_true, decide_eq_true_eq] at hB
  obtain ⟨⟨⟨⟨hsel, hn⟩, hs⟩, hc⟩, hlex⟩ := hB
  have hn' : n < l.length := by simpa using hn
  have htl : (l.take n).length = n := by simp; omega
  have hdl : (l.drop n).length = l.toArray.size - n := by simp
  have inv0 : HeadInv .any l.toArray n (Array.replicate l.toArray.size false) :=
    ⟨by simp, fun j oj _ hl => (by rw [getD_replicate_false] at hl; cases hl), fun t _ ht => getD_in (by simpa using ht) (getD_replicate_false _ _)⟩
  have H := anyHead_lex (md := .any) (g := l.toArray.size - n) hsel hs hc hn (l.take n) 0 _ a (fun j hj => by
    have hj' : j < n := by rw [htl] at hj; exact hj
    simp [hj']) (by simpa using htl) inv0 (by rw [htl]; exact hlex) h
  refine wp_region_any hm ?_
  have := any_of_head (Q' := Q) (g := l.toArray.size - n) (fun listed a' w' hw' hL => by
    have := wpAny_of_seq (md := .any) (Q' := Q) (l.drop n) n listed a' w' (fun j => by simp [List.getElem?_drop]) (by rw [hdl]; exact hL.1) (hL.2 w' hw')
    rwa [hdl] at this) _ _ _ { w with drawn := w.drawn + 1 } ⟨⟨#[], w.drawn + 1⟩, by simp [plus]⟩ H
  rw [htl, show n + (l.toArray.size - n) = l.toArray.size by omega] at this
  exact this
end Go.Proofs.Ytabkdmcmfecokaa
