/- Worlds' sizes, memories and the first machines as values. -/
import Derived.Test.YtabkdmcmfecokaaWords
namespace Go.Proofs.Ytabkdmcmfecokaa
open Go Go.RowKit

/-- A world's greatness. -/
structure Cfg where
  t : Nat
  s : Nat
  k : Nat
  g : Nat
  q : Nat

structure Cfg.Ok (c : Cfg) : Prop where
  t1 : 1 ≤ c.t
  t2 : c.t ≤ 8
  s1 : 1 ≤ c.s
  s2 : c.s ≤ 12
  k1 : 1 ≤ c.k
  k2 : c.k ≤ 8
  g2 : c.g ≤ 1073741823
  q2 : c.q ≤ 1099511627775

def spanAt (c : Cfg) (kind : Int) : Nat × Nat × Nat :=
  if kind = 1 then (0, 1, 1) else if kind = 2 then (1, 1, 1) else if kind = 3 then (2, c.t, 1) else
  if 4 ≤ kind ∧ kind ≤ 7 then (2 + c.t + (kind - 4).toNat, c.s, 4) else if kind = 8 then (2 + c.t + 4 * c.s, c.k, 1) else (0, 0, 0)
/-- Where a spot stands. -/
def cellAt (c : Cfg) (kind x : Int) : Option Nat := if 0 ≤ x ∧ x < (spanAt c kind).2.1 then some ((spanAt c kind).1 + x.toNat * (spanAt c kind).2.2) else none
def lenOf (c : Cfg) : Nat := 2 + c.t + 4 * c.s + c.k


theorem cell_kind {c : Cfg} {kind x : Int} {n : Nat} (h : cellAt c kind x = some n) : 1 ≤ kind ∧ kind ≤ 8 ∧ 0 ≤ x ∧ x < 12 ∨ ¬ c.Ok := by
  by_cases hc : c.Ok
  · left
    have h1 := hc.t2; have h2 := hc.s2; have h3 := hc.k2
    unfold cellAt spanAt at h
    repeat' split at h
    all_goals first | (cases h; done) | (simp at *; omega)
  · exact .inr hc
theorem cell_inj {c : Cfg} {k x k' x' : Int} {n : Nat} (h : cellAt c k x = some n) (h' : cellAt c k' x' = some n) : k = k' ∧ x = x' := by
  unfold cellAt spanAt at h h'
  repeat' split at h
  all_goals first | (cases h; done) | skip
  all_goals repeat' split at h'
  all_goals first | (cases h'; done) | skip
  all_goals
    simp at *
    omega
theorem cell_lt {c : Cfg} {k x : Int} {n : Nat} (h : cellAt c k x = some n) : n < lenOf c := by
  unfold cellAt spanAt at h
  unfold lenOf
  repeat' split at h
  all_goals first | (cases h; done) | (simp at *; omega)
/-- Which spot stands somewhere. -/
def spotAt (c : Cfg) (n : Nat) : Int × Int :=
  if n = 0 then (1, 0) else if n = 1 then (2, 0) else if n < 2 + c.t then (3, ((n - 2 : Nat) : Int)) else
  if n < 2 + c.t + 4 * c.s then (4 + (((n - 2 - c.t) % 4 : Nat) : Int), (((n - 2 - c.t) / 4 : Nat) : Int)) else (8, ((n - 2 - c.t - 4 * c.s : Nat) : Int))
theorem cell_spot {c : Cfg} {n : Nat} (h : n < lenOf c) : cellAt c (spotAt c n).1 (spotAt c n).2 = some n := by
  unfold lenOf at h
  unfold spotAt
  repeat' split
  all_goals
    unfold cellAt spanAt
    simp
    repeat' split
    all_goals first | omega | (simp; omega)

/-- The last access. -/
structure Tch where
  kind : Int
  sk : Int
  so : Int
  old : Nat
  new : Nat
  done : Bool
/-- A memory. -/
structure Mem where
  c : Cfg
  ws : List Nat
  last : Tch
  many : Int

/-- What an access makes of a memory. -/
def Mem.put (M : Mem) (kind sk so : Int) (n old new : Nat) (d : Bool) : Mem := { M with ws := M.ws.set n new, last := ⟨kind, sk, so, old, new, d⟩, many := wrap64 (M.many + 1) }
def Mem.miss (M : Mem) (kind sk so : Int) : Mem := { M with last := ⟨kind, sk, so, 0, 0, false⟩, many := wrap64 (M.many + 1) }


def Mem.load (M : Mem) (sk so : Int) : Mem × Nat := match cellAt M.c sk so with
  | some n => (M.put 1 sk so n (M.ws.getD n 0) (M.ws.getD n 0) true, M.ws.getD n 0)
  | none => (M.miss 1 sk so, 0)
def Mem.store (M : Mem) (sk so : Int) (v : Nat) : Mem := match cellAt M.c sk so with
  | some n => M.put 2 sk so n (M.ws.getD n 0) v true
  | none => M.miss 2 sk so
def Mem.swap (M : Mem) (sk so : Int) (a b : Nat) : Mem × Bool := match cellAt M.c sk so with
  | some n => if M.ws.getD n 0 = a then (M.put 3 sk so n a b true, true) else (M.put 3 sk so n (M.ws.getD n 0) (M.ws.getD n 0) false, false)
  | none => (M.miss 3 sk so, false)

def Mem.fresh (c : Cfg) (ws : List Nat) : Mem := ⟨c, ws, ⟨0, 0, 0, 0, 0, false⟩, 0⟩

/-! ### words by spots -/
def Mem.word (M : Mem) (k x : Int) : Nat := match cellAt M.c k x with | some n => M.ws.getD n 0 | none => 0
structure Mem.Wf (M : Mem) : Prop where
  len : M.ws.length = lenOf M.c
theorem Mem.load_val (M : Mem) (k x : Int) : (M.load k x).2 = M.word k x := by
  unfold Mem.load Mem.word
  cases cellAt M.c k x <;> rfl
theorem Mem.load_ws (M : Mem) (hM : M.Wf) (k x : Int) : (M.load k x).1.ws = M.ws ∧ (M.load k x).1.c = M.c := by
  unfold Mem.load
  split
  · rename_i n hc
    refine ⟨?_, rfl⟩
    have hn : n < M.ws.length := by rw [hM.len]; exact cell_lt hc
    show M.ws.set n (M.ws.getD n 0) = M.ws
    apply List.ext_getElem?
    intro i
    rw [List.getElem?_set]
    split
    · rename_i e; subst e; simp [hn]
    · rfl
  · exact ⟨rfl, rfl⟩
theorem Mem.word_congr {M M' : Mem} (h1 : M'.ws = M.ws) (h2 : M'.c = M.c) (k x : Int) : M'.word k x = M.word k x := by unfold Mem.word; rw [h1, h2]
theorem Mem.put_word (M : Mem) (hM : M.Wf) (kd k x : Int) (n old new : Nat) (d : Bool) (hc : cellAt M.c k x = some n) (k' x' : Int) :
    (M.put kd k x n old new d).word k' x' = if k' = k ∧ x' = x then new else M.word k' x' := by
  have hn : n < M.ws.length := by rw [hM.len]; exact cell_lt hc
  unfold Mem.word
  show (match cellAt M.c k' x' with | some m => (M.ws.set n new).getD m 0 | none => 0) = _
  by_cases he : k' = k ∧ x' = x
  · obtain ⟨rfl, rfl⟩ := he
    rw [hc]; simp [hn]
  · rw [if_neg he]
    cases h' : cellAt M.c k' x' with
    | none => rfl
    | some m =>
      have hne : n ≠ m := fun e => he (by subst e; exact cell_inj h' hc)
      simp only
      rw [List.getD_eq_getElem?_getD, List.getD_eq_getElem?_getD, List.getElem?_set_ne hne]
theorem Mem.put_wf (M : Mem) (hM : M.Wf) (kd k x : Int) (n old new : Nat) (d : Bool) : (M.put kd k x n old new d).Wf ∧ (M.put kd k x n old new d).c = M.c :=
  ⟨⟨by show (M.ws.set n new).length = _; rw [List.length_set]; exact hM.len⟩, rfl⟩
theorem Mem.load_wf (M : Mem) (hM : M.Wf) (k x : Int) : (M.load k x).1.Wf := ⟨by rw [(M.load_ws hM k x).1, (M.load_ws hM k x).2]; exact hM.len⟩
theorem Mem.store_wf (M : Mem) (hM : M.Wf) (k x : Int) (v : Nat) : (M.store k x v).Wf ∧ (M.store k x v).c = M.c := by
  unfold Mem.store
  split
  · exact M.put_wf hM ..
  · exact ⟨⟨hM.len⟩, rfl⟩
theorem Mem.store_word (M : Mem) (hM : M.Wf) (k x : Int) (v : Nat) (hc : (cellAt M.c k x).isSome = true) (k' x' : Int) : (M.store k x v).word k' x' = if k' = k ∧ x' = x then v else M.word k' x' := by
  obtain ⟨n, hn⟩ := Option.isSome_iff_exists.1 hc
  unfold Mem.store
  rw [hn]
  exact M.put_word hM _ _ _ _ _ _ _ hn _ _
theorem Mem.store_miss (M : Mem) (k x : Int) (v : Nat) (hc : cellAt M.c k x = none) (k' x' : Int) : (M.store k x v).word k' x' = M.word k' x' := by
  unfold Mem.store
  rw [hc]
  rfl
theorem Mem.swap_wf (M : Mem) (hM : M.Wf) (k x : Int) (a b : Nat) : (M.swap k x a b).1.Wf ∧ (M.swap k x a b).1.c = M.c := by
  unfold Mem.swap
  split
  · split <;> exact M.put_wf hM ..
  · exact ⟨⟨hM.len⟩, rfl⟩
theorem Mem.swap_yes (M : Mem) (hM : M.Wf) (k x : Int) (a b : Nat) (hc : (cellAt M.c k x).isSome = true) (h : M.word k x = a) :
    (M.swap k x a b).2 = true ∧ ∀ k' x', (M.swap k x a b).1.word k' x' = if k' = k ∧ x' = x then b else M.word k' x' := by
  obtain ⟨n, hn⟩ := Option.isSome_iff_exists.1 hc
  have h' : M.ws.getD n 0 = a := by rw [← h]; unfold Mem.word; rw [hn]
  unfold Mem.swap
  rw [hn]
  simp only [if_pos h']
  exact ⟨trivial, fun k' x' => M.put_word hM _ _ _ _ _ _ _ hn _ _⟩
theorem Mem.swap_no (M : Mem) (hM : M.Wf) (k x : Int) (a b : Nat) (h : M.word k x ≠ a ∨ cellAt M.c k x = none) :
    (M.swap k x a b).2 = false ∧ ∀ k' x', (M.swap k x a b).1.word k' x' = M.word k' x' := by
  unfold Mem.swap
  cases hc : cellAt M.c k x with
  | none => exact ⟨rfl, fun _ _ => rfl⟩
  | some n =>
    have h' : ¬ M.ws.getD n 0 = a := by
      intro e
      rcases h with h | h
      · apply h; unfold Mem.word; rw [hc]; exact e
      · rw [hc] at h; cases h
    simp only [if_neg h']
    refine ⟨trivial, fun k' x' => ?_⟩
    rw [M.put_word hM _ _ _ _ _ _ _ hc]
    split
    · rename_i e
      obtain ⟨rfl, rfl⟩ := e
      unfold Mem.word; rw [hc]
    · rfl
theorem fresh_wf (c : Cfg) : (Mem.mk c (List.replicate (lenOf c) 0) ⟨0, 0, 0, 0, 0, false⟩ 0).Wf := ⟨by simp⟩
theorem fresh_word (c : Cfg) (k x : Int) (l : Tch) (m : Int) : (Mem.mk c (List.replicate (lenOf c) 0) l m).word k x = 0 := by
  unfold Mem.word
  split
  · rename_i n hn
    simp only [List.getD_eq_getElem?_getD, List.getElem?_replicate]
    split <;> rfl
  · rfl
/-- Which spots there are. -/
theorem cell_tally (c : Cfg) : (cellAt c 1 0).isSome = true := by simp [cellAt, spanAt]
theorem cell_slot (c : Cfg) (k : Int) (hk : 4 ≤ k ∧ k ≤ 7) (x : Nat) (hx : x < c.s) : (cellAt c k x).isSome = true := by
  have e : spanAt c k = (2 + c.t + (k - 4).toNat, c.s, 4) := by
    unfold spanAt
    rw [if_neg (by omega), if_neg (by omega), if_neg (by omega), if_pos hk]
  unfold cellAt
  rw [e]
  simp [hx]
theorem cell_key (c : Cfg) (x : Nat) (hx : x < c.k) : (cellAt c 8 x).isSome = true := by
  unfold cellAt spanAt
  simp [hx]
theorem cell_pin (c : Cfg) (x : Nat) (hx : x < c.t) : (cellAt c 3 x).isSome = true := by
  unfold cellAt spanAt
  simp [hx]

/-- What notes a commit: its word, where it is, what it looked at. -/
structure Hlp where
  w : Nat
  next : Nat
  s : Nat
  done : Bool

def pend (w : Nat) : Int := ((w % 16 : Nat) : Int) - 1

def Hlp.new (w : Nat) : Hlp := ⟨w, 0, 0, w % 16 == 0⟩
/-- One step of it. -/
def Hlp.step (H : Hlp) (M : Mem) : Hlp × Mem :=
  if H.done then (H, M) else
  match H.next with
  | 0 => ({ H with next := 1 }, (M.swap 6 (pend H.w) 0 (H.w / 16)).1)
  | 1 => let r := M.load 4 (pend H.w); ({ H with s := r.2, next := if stState r.2 = 3 then 2 else 3 }, r.1)
  | 2 => let r := M.swap 4 (pend H.w) H.s (stMove H.s 4 (stBusy H.s)); ({ H with next := if r.2 then 3 else 1 }, r.1)
  | _ => ({ H with done := true }, (M.swap 1 0 H.w (H.w / 16 * 16)).1)

/-- A beginning: its slot, where it is, what it looked at, how many commits there were, its help, what it tells. -/
structure Opn where
  slot : Nat
  next : Nat
  s : Nat
  seq : Nat
  a : Hlp
  e : Nat
  h : Nat
  n : Nat
  done : Bool
def Opn.new : Opn := ⟨0, 0, 0, 0, ⟨0, 0, 0, false⟩, 0, 0, 0, false⟩
def Opn.goes (O : Opn) (slots : Nat) : Opn := if slots ≤ O.slot + 1 then { O with slot := O.slot + 1, next := 0, e := 6, done := true } else { O with slot := O.slot + 1, next := 0 }
def Opn.step (O : Opn) (M : Mem) : Opn × Mem :=
  if O.done then (O, M) else
  match O.next with
  | 0 => let r := M.load 4 O.slot; (if stState r.2 = 0 ∧ stGen r.2 ≤ M.c.g then { O with s := r.2, next := 1 } else { O with s := r.2 }.goes M.c.s, r.1)
  | 1 => let r := M.swap 4 O.slot O.s (stMove O.s 1 false); (if r.2 then { O with next := 2 } else O.goes M.c.s, r.1)
  | 2 => let r := M.load 1 0; (if r.2 % 16 = 0 then { O with seq := r.2 / 16, next := 4 } else { O with seq := r.2 / 16, a := Hlp.new r.2, next := 3 }, r.1)
  | 3 => let r := O.a.step M; ({ O with a := r.1, next := if r.1.done then 2 else 3 }, r.2)
  | 4 => ({ O with next := 5 }, M.store 5 O.slot O.seq)
  | _ => ({ O with e := 0, h := 16 * stGen O.s + O.slot + 1, n := O.seq, done := true }, M.store 4 O.slot (stMove O.s 2 false))

/-- A ticket's generation, but no more than one above the greatest. -/
def tkGen (h : Nat) : Nat := min (h / 16) 1073741824

/-- Does the ticket name a transaction, of a world of so many slots? -/
def named (h slots : Nat) : Bool := decide (1 ≤ h % 16) && decide (h % 16 ≤ 12) && decide (h % 16 - 1 < slots) && decide (h / 16 ≤ 1073741823)

/-- The word of a state, and a generation. -/
def stNew (s g : Nat) : Nat := 134217728 * s + 1073741824 * g

end Go.Proofs.Ytabkdmcmfecokaa
