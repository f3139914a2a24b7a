/- A region that draws its order, in which calls hand back new memory, and new cells are laid at any time. -/
import Derived.Test.YtabkdmcmfecokaaKit
namespace Go.Proofs.Ytabkdmcmfecokaa
open Go Go.RowKit

/-! ### a region that draws its order, in which calls hand back new memory, and new cells are laid at any time -/
/-- An operation carried out: its value, and what holds then. -/
def does (P : Program) (o : Oper) (ρ : Operand → Value) (W : World) (K : Value → World → Prop) : Prop :=
  match (execOp ρ o).run P W with
  | .ok (.value v) W' => K v W'
  | .ok .skip W' => K undef W'
  | .ok (.enter f args) W' => Calls P f args W' fun e W'' => ∃ v, e = .returned v ∧ K v W''
  | _ => False
attribute [go_sem] does
theorem wp_of_does {P : Program} {o : Oper} {a : Act} {W : World} {K : Value → World → Prop} {N : Act → World → Prop} {Q : Exit → Act → World → Prop} (h : does P o a.eval W K) (hN : ∀ v W', K v W' → N (a.put o.dst v) W') : o.wp P a W N Q := by
  unfold does at h
  unfold Oper.wp
  generalize (execOp a.eval o).run P W = r at h
  cases r with
  | ok nx w' =>
    cases nx with
    | value u => exact hN _ _ h
    | skip => exact hN _ _ h
    | enter f args =>
      refine Calls.mono h fun e w'' he => ?_
      obtain ⟨v, rfl, hv⟩ := he
      exact hN _ _ hv
    | _ => exact h.elim
  | halt x w' => exact h.elim
abbrev Gam := List (Tmp × (Value → World → Prop))
/-- The lexical walk: an operation of 'fl' by what holds of its value, any other one by its value. -/
def wpMix (P : Program) (w0 : World) (fl : List Nat) (Fin : Gam → Act → Prop) : List Oper → Nat → Gam → Act → Prop
  | [], _, Γ, a => Fin Γ a
  | o :: r, i, Γ, a =>
    if fl.contains i then
      ∃ Φ : Value → World → Prop, (∀ v W W', Grew W W' → Φ v W → Φ v W') ∧
        (∀ (W : World) (ρ : Operand → Value), Grew w0 W → (∀ x ∈ o.op.operands, (∀ t, x = .tmp t → t ∉ Γ.map Prod.fst) → ρ x = a.eval x) → (∀ t Ψ, (t, Ψ) ∈ Γ → .tmp t ∈ o.op.operands → Ψ (ρ (.tmp t)) W) →
          does P o ρ W fun v W' => Φ v W' ∧ Grew W W') ∧ wpMix P w0 fl Fin r (i + 1) ((o.dst.getD 0, Φ) :: Γ) a
    else ∃ v, (∀ W, Grew w0 W → does P o a.eval W fun u W' => u = v ∧ Grew W W') ∧ wpMix P w0 fl Fin r (i + 1) Γ (a.put o.dst v)
theorem does_mono {P : Program} {o : Oper} {ρ : Operand → Value} {W : World} {K K' : Value → World → Prop} (h : does P o ρ W K) (hk : ∀ v W', K v W' → K' v W') : does P o ρ W K' := by
  unfold does at *
  generalize (execOp ρ o).run P W = r at *
  cases r with
  | ok nx w' =>
    cases nx with
    | enter f args => exact Calls.mono h fun e w'' ⟨v, hv, hv2⟩ => ⟨v, hv, hk _ _ hv2⟩
    | value u => exact hk _ _ h
    | skip => exact hk _ _ h
    | _ => exact h.elim
  | halt x w' => exact h.elim
theorem mix_known {P : Program} {w0 : World} {fl : List Nat} {Fin : Gam → Act → Prop} {o : Oper} {r : List Oper} {i : Nat} {Γ : Gam} {a : Act} (v : Value) (a' : Act) (hf : fl.contains i = false)
    (h : ∀ (W : World) (K : Value → World → Prop), Grew w0 W → (∀ W', Grew W W' → K v W') → does P o a.eval W K) (ha : a.put o.dst v = a') (hn : wpMix P w0 fl Fin r (i + 1) Γ a') : wpMix P w0 fl Fin (o :: r) i Γ a := by
  subst ha
  unfold wpMix
  rw [if_neg (by rw [hf]; exact Bool.false_ne_true)]
  exact ⟨v, fun W hW => h W _ hW fun W' hW' => ⟨rfl, hW'⟩, hn⟩
theorem mix_phi {P : Program} {w0 : World} {fl : List Nat} {Fin : Gam → Act → Prop} {o : Oper} {r : List Oper} {i : Nat} {Γ : Gam} {a : Act} (Φ : Value → World → Prop) (hf : fl.contains i = true)
    (hst : ∀ v W W', Grew W W' → Φ v W → Φ v W')
    (h : ∀ (W : World) (ρ : Operand → Value) (K : Value → World → Prop), Grew w0 W → (∀ x ∈ o.op.operands, (∀ t, x = .tmp t → t ∉ Γ.map Prod.fst) → ρ x = a.eval x) → (∀ t Ψ, (t, Ψ) ∈ Γ → .tmp t ∈ o.op.operands → Ψ (ρ (.tmp t)) W) →
      (∀ v W', Φ v W' → Grew W W' → K v W') → does P o ρ W K) (hn : wpMix P w0 fl Fin r (i + 1) ((o.dst.getD 0, Φ) :: Γ) a) : wpMix P w0 fl Fin (o :: r) i Γ a := by
  unfold wpMix
  rw [if_pos hf]
  exact ⟨Φ, hst, fun W ρ hW h1 h2 => h W ρ _ hW h1 h2 fun v W' hv hg => ⟨hv, hg⟩, hn⟩
/-- New cells, laid at any time. -/
def Lies (n0 : Nat) (o : Obj) (v : Value) (W : World) : Prop := ∃ B, v = .pointer (some ⟨B, 0, none⟩) ∧ n0 ≤ B ∧ W.heap[B]? = some o
theorem Lies.grew {n0 : Nat} {o : Obj} (v : Value) (W W' : World) (hg : Grew W W') (h : Lies n0 o v W) : Lies n0 o v W' := by
  obtain ⟨B, h1, h2, h3⟩ := h; exact ⟨B, h1, h2, hg.blk h3⟩
theorem mix_alloc {P : Program} {w0 : World} {fl : List Nat} {Fin : Gam → Act → Prop} {o : Oper} {r : List Oper} {i : Nat} {Γ : Gam} {a : Act} (ob : Obj) (hf : fl.contains i = true)
    (h : ∀ (W : World) (ρ : Operand → Value), (execOp ρ o).run P W = .ok (.value (.pointer (some ⟨W.heap.size, 0, none⟩))) (W.alloc ob))
    (hn : wpMix P w0 fl Fin r (i + 1) ((o.dst.getD 0, Lies w0.heap.size ob) :: Γ) a) : wpMix P w0 fl Fin (o :: r) i Γ a := by
  refine mix_phi (Lies w0.heap.size ob) hf Lies.grew (fun W ρ K hW _ _ hK => ?_) hn
  unfold does
  rw [h W ρ]
  exact hK _ _ ⟨W.heap.size, rfl, hW.size, alloc_new W ob⟩ ((Grew.refl W).alloc ob)

/-- What is asked of the region's edges. -/
def mixFrom (fl : List Nat) (m n : Nat) (all : List Oper) : Nat → List Nat → List Oper → Bool
  | _, _, [] => true
  | i, seen, o :: r => (decide (n ≤ i) || (o.guard.isNone && (match o.op with | .select _ _ => false | _ => true) &&
    (match o.dst with | some d => decide (d < m) && !seen.contains d | none => !fl.contains i) &&
    (o.op.operands.all fun x => match x with
      | .tmp t => (List.range n).all fun j => (match all[j]? with | some oj => oj.dst != some t || (o.after.any (fun e => e.on == j) && (fl.contains i || !fl.contains j)) | none => true)
      | _ => true))) && o.after.all (fun e => decide (e.on < i) && Region.binds .any e) && mixFrom fl m n all (i + 1) ((match o.dst with | some d => [d] | none => []) ++ seen) r
def mixOk (fl : List Nat) (m n : Nat) (l : List Oper) : Bool :=
  mixFrom fl m n l 0 [] l && decide (n < l.length) && Region.sinkB .any l.toArray n && Region.chainB .any l.toArray n &&
  Region.seqB .any l.toArray (l.length - n) n ((List.replicate n true ++ List.replicate (l.length - n) false).toArray)
structure MixSpec (fl : List Nat) (m n : Nat) (all : List Oper) (i : Nat) (o : Oper) : Prop where
  guard : o.guard = none
  sel : ∀ cs b, o.op ≠ .select cs b
  fresh : ∀ d, o.dst = some d → d < m ∧ ∀ j oj, j < n → all[j]? = some oj → oj.dst = some d → j = i
  flag : fl.contains i = true → ∃ d, o.dst = some d
  reads : ∀ t, Operand.tmp t ∈ o.op.operands → ∀ j oj, j < n → all[j]? = some oj → oj.dst = some t → (∃ e ∈ o.after, e.on = j) ∧ (fl.contains i = true ∨ fl.contains j = false)
theorem mixFrom_edges {fl : List Nat} {m n : Nat} {all : List Oper} : ∀ (l : List Oper) (i : Nat) (seen : List Nat), mixFrom fl m n all i seen l = true → ∀ j o, l[j]? = some o → ∀ e ∈ o.after, e.on < i + j ∧ Region.binds .any e = true
  | [], _, _, _, j, o, hj => by simp at hj
  | x :: r, i, seen, h, j, o, hj => by
    simp only [mixFrom, Bool.and_eq_true] at h
    cases j with
    | zero =>
      simp at hj; subst hj
      intro e he
      have := Array.all_eq_true'.1 h.1.2 e he
      simp only [Bool.and_eq_true, decide_eq_true_eq] at this
      exact ⟨by omega, this.2⟩
    | succ j =>
      intro e he
      have := mixFrom_edges r _ _ h.2 j o (by simpa using hj) e he
      exact ⟨by omega, this.2⟩
theorem mixFrom_seen {fl : List Nat} {m n : Nat} {all : List Oper} : ∀ (l : List Oper) (i : Nat) (seen : List Nat), mixFrom fl m n all i seen l = true → ∀ j o d, l[j]? = some o → i + j < n → o.dst = some d → d ∉ seen
  | [], _, _, _, j, o, d, hj, _, _ => by simp at hj
  | x :: r, i, seen, h, j, o, d, hj, hjn, hd => by
    simp only [mixFrom, Bool.and_eq_true] at h
    cases j with
    | zero =>
      simp at hj; subst hj
      have h1 := h.1.1
      rw [Bool.or_eq_true] at h1
      rcases h1 with h1 | h1
      · simp at h1; omega
      · simp only [Bool.and_eq_true] at h1
        have h2 := h1.1.2
        rw [hd] at h2
        simp only [Bool.and_eq_true, Bool.not_eq_true', decide_eq_true_eq] at h2
        have := h2.2
        simpa using this
    | succ j =>
      have := mixFrom_seen r _ _ h.2 j o d (by simpa using hj) (by omega) hd
      simp only [List.mem_append, not_or] at this
      exact this.2
theorem mixFrom_spec {fl : List Nat} {m n : Nat} {all : List Oper} : ∀ (l : List Oper) (i : Nat) (seen : List Nat), (∀ j, l[j]? = all[i + j]?) → (∀ j oj d, j < i → all[j]? = some oj → oj.dst = some d → d ∈ seen) →
    mixFrom fl m n all i seen l = true → ∀ j o, l[j]? = some o → i + j < n → MixSpec fl m n all (i + j) o
  | [], _, _, _, _, _, j, o, hj, _ => by simp at hj
  | x :: r, i, seen, hl, hseen, h, j, o, hj, hjn => by
    have h' := h
    simp only [mixFrom, Bool.and_eq_true] at h
    obtain ⟨⟨h1, h2⟩, h3⟩ := h
    have hr : ∀ j, r[j]? = all[i + 1 + j]? := fun j => by have := hl (j + 1); simpa [Nat.add_assoc, Nat.add_comm 1 j] using this
    have hx : all[i]? = some x := by have := hl 0; simpa using this.symm
    cases j with
    | zero =>
      simp at hj; subst hj
      rw [Bool.or_eq_true] at h1
      rcases h1 with h1 | h1
      · simp at h1; omega
      · simp only [Bool.and_eq_true] at h1
        obtain ⟨⟨⟨g1, g2⟩, g3⟩, g4⟩ := h1
        refine ⟨by simpa using g1, fun cs b e => (by rw [e] at g2; cases g2), fun d hd => ?_, fun hfl => ?_, fun t ht j oj hjn2 hoj hdj => ?_⟩
        · rw [hd] at g3
          simp only [Bool.and_eq_true, decide_eq_true_eq, Bool.not_eq_true'] at g3
          refine ⟨g3.1, fun j oj hjn2 hoj hdj => ?_⟩
          rcases Nat.lt_trichotomy j i with hlt | heq | hgt
          · have := hseen j oj d hlt hoj hdj
            have g := g3.2
            simp at g
            exact absurd this g
          · omega
          · exfalso
            have hj2 : r[j - (i + 1)]? = some oj := by rw [hr, show i + 1 + (j - (i + 1)) = j by omega]; exact hoj
            have := mixFrom_seen r _ _ h3 (j - (i + 1)) oj d hj2 (by omega) hdj
            rw [hd] at this
            simp at this
        · cases hd : x.dst with
          | none => rw [hd] at g3; simp only [Bool.not_eq_true'] at g3; simp only [Nat.add_zero] at hfl; rw [hfl] at g3; cases g3
          | some d => exact ⟨d, rfl⟩
        · have g5 := Array.all_eq_true'.1 g4 _ ht
          simp only at g5
          have g6 := List.all_eq_true.1 g5 j (List.mem_range.2 hjn2)
          rw [hoj] at g6
          simp only [Bool.or_eq_true, Bool.and_eq_true, bne_iff_ne, Bool.not_eq_true'] at g6
          rcases g6 with g6 | ⟨g6, g7⟩
          · exact absurd hdj g6
          · obtain ⟨e, he, hej⟩ := Array.any_eq_true'.1 g6
            exact ⟨⟨e, he, by simpa using hej⟩, by simpa using g7⟩
    | succ j =>
      have := mixFrom_spec r (i + 1) _ hr (fun j' oj d hj' hoj hdj => by
        rcases Nat.lt_or_ge j' i with hlt | hge
        · exact List.mem_append_right _ (hseen j' oj d hlt hoj hdj)
        · have : j' = i := by omega
          subst this
          rw [hx] at hoj
          have : x = oj := Option.some.inj hoj
          subst this
          rw [hdj]; simp) h3 j o (by simpa using hj) (by omega)
      rw [show i + (j + 1) = i + 1 + j by omega]; exact this

section
variable (P : Program) (w0 : World) (fl : List Nat) (l : List Oper) (a0 : Act)
/-- The lexical frame ahead of operation 'k'. -/
def lexA (vs : Nat → Value) : Nat → Act
  | 0 => a0
  | k + 1 => match l[k]? with
    | some o => if fl.contains k then lexA vs k else (lexA vs k).put o.dst (vs k)
    | none => lexA vs k
def lexG (Φs : Nat → Value → World → Prop) : Nat → Gam
  | 0 => []
  | k + 1 => match l[k]? with
    | some o => if fl.contains k then (o.dst.getD 0, Φs k) :: lexG Φs k else lexG Φs k
    | none => lexG Φs k
theorem lexA_congr {vs vs' : Nat → Value} : ∀ k, (∀ j, j < k → vs j = vs' j) → lexA fl l a0 vs k = lexA fl l a0 vs' k
  | 0, _ => rfl
  | k + 1, h => by
    have ih := lexA_congr k fun j hj => h j (by omega)
    simp only [lexA]
    rw [ih, h k (by omega)]
theorem lexG_congr {Φs Φs' : Nat → Value → World → Prop} : ∀ k, (∀ j, j < k → Φs j = Φs' j) → lexG fl l Φs k = lexG fl l Φs' k
  | 0, _ => rfl
  | k + 1, h => by
    have ih := lexG_congr k fun j hj => h j (by omega)
    simp only [lexG]
    rw [ih, h k (by omega)]
/-- What the walk has shown of operation 'k'. -/
def Shown (vs : Nat → Value) (Φs : Nat → Value → World → Prop) (k : Nat) (o : Oper) : Prop :=
  if fl.contains k then (∀ v W W', Grew W W' → Φs k v W → Φs k v W') ∧
    (∀ (W : World) (ρ : Operand → Value), Grew w0 W → (∀ x ∈ o.op.operands, (∀ t, x = .tmp t → t ∉ (lexG fl l Φs k).map Prod.fst) → ρ x = (lexA fl l a0 vs k).eval x) → (∀ t Ψ, (t, Ψ) ∈ lexG fl l Φs k → .tmp t ∈ o.op.operands → Ψ (ρ (.tmp t)) W) →
      does P o ρ W fun v W' => Φs k v W' ∧ Grew W W')
  else ∀ W, Grew w0 W → does P o (lexA fl l a0 vs k).eval W fun u W' => u = vs k ∧ Grew W W'
theorem mix_extract {n : Nat} {Fin : Gam → Act → Prop} (hn : n ≤ l.length) : ∀ (g i : Nat) (vs : Nat → Value) (Φs : Nat → Value → World → Prop), n - i = g → i ≤ n → wpMix P w0 fl Fin ((l.take n).drop i) i (lexG fl l Φs i) (lexA fl l a0 vs i) →
    ∃ (vs' : Nat → Value) (Φs' : Nat → Value → World → Prop), (∀ j, j < i → vs' j = vs j) ∧ (∀ j, j < i → Φs' j = Φs j) ∧ (∀ k o, i ≤ k → k < n → l[k]? = some o → Shown P w0 fl l a0 vs' Φs' k o) ∧ Fin (lexG fl l Φs' n) (lexA fl l a0 vs' n) := by
  intro g
  induction g with
  | zero =>
    intro i vs Φs hg hi h
    have : i = n := by omega
    subst this
    rw [List.drop_eq_nil_of_le (by simp; omega)] at h
    exact ⟨vs, Φs, fun _ _ => rfl, fun _ _ => rfl, fun k o h1 h2 => by omega, h⟩
  | succ g ih =>
    intro i vs Φs hg hi h
    have hin : i < n := by omega
    have hlt : i < l.length := by omega
    have ho : l[i]? = some l[i] := List.getElem?_eq_getElem hlt
    have hd : (l.take n).drop i = l[i] :: (l.take n).drop (i + 1) := by
      rw [List.drop_eq_getElem_cons (by simp; omega)]
      congr 1
      simp
    rw [hd] at h
    unfold wpMix at h
    by_cases hf : fl.contains i = true
    · rw [if_pos hf] at h
      obtain ⟨Φ, h1, h2, h3⟩ := h
      obtain ⟨vs', Φs', k1, k2, k3, k4⟩ := ih (i + 1) vs (fun j => if j = i then Φ else Φs j) (by omega) (by omega) (by
        have e1 : lexG fl l (fun j => if j = i then Φ else Φs j) (i + 1) = ((l[i]).dst.getD 0, Φ) :: lexG fl l Φs i := by
          simp only [lexG, ho, hf, if_true]
          rw [lexG_congr fl l (Φs' := Φs) i fun j hj => by rw [if_neg (by omega)]]
        have e2 : lexA fl l a0 vs (i + 1) = lexA fl l a0 vs i := by simp only [lexA, ho, hf, if_true]
        rw [e1, e2]; exact h3)
      have q1 : ∀ j, j < i → vs' j = vs j := fun j hj => k1 j (by omega)
      have q2 : ∀ j, j < i → Φs' j = Φs j := fun j hj => by rw [k2 j (by omega), if_neg (by omega)]
      refine ⟨vs', Φs', q1, q2, fun k o hk hkn hok => ?_, k4⟩
      by_cases hki : k = i
      · subst hki
        rw [ho] at hok
        have := Option.some.inj hok
        subst this
        unfold Shown
        rw [if_pos hf, lexA_congr fl l a0 k q1, lexG_congr fl l k q2, k2 k (by omega), if_pos rfl]
        exact ⟨h1, h2⟩
      · exact k3 k o (by omega) hkn hok
    · rw [if_neg hf] at h
      obtain ⟨v, h2, h3⟩ := h
      obtain ⟨vs', Φs', k1, k2, k3, k4⟩ := ih (i + 1) (fun j => if j = i then v else vs j) Φs (by omega) (by omega) (by
        have e1 : lexG fl l Φs (i + 1) = lexG fl l Φs i := by simp only [lexG, ho, hf]; rfl
        have e2 : lexA fl l a0 (fun j => if j = i then v else vs j) (i + 1) = (lexA fl l a0 vs i).put (l[i]).dst v := by
          simp only [lexA, ho, hf]
          rw [lexA_congr fl l a0 (vs' := vs) i fun j hj => by rw [if_neg (by omega)]]
          simp
        rw [e1, e2]; exact h3)
      have q1 : ∀ j, j < i → vs' j = vs j := fun j hj => by rw [k1 j (by omega), if_neg (by omega)]
      have q2 : ∀ j, j < i → Φs' j = Φs j := fun j hj => k2 j (by omega)
      refine ⟨vs', Φs', q1, q2, fun k o hk hkn hok => ?_, k4⟩
      by_cases hki : k = i
      · subst hki
        rw [ho] at hok
        have := Option.some.inj hok
        subst this
        unfold Shown
        rw [if_neg hf, lexA_congr fl l a0 k q1, k1 k (by omega), if_pos rfl]
        exact h2
      · exact k3 k o (by omega) hkn hok

theorem lexA_size (vs : Nat → Value) : ∀ k, (lexA fl l a0 vs k).tmps.size = a0.tmps.size
  | 0 => rfl
  | k + 1 => by
    simp only [lexA]
    split
    · split
      · exact lexA_size vs k
      · rw [size_put]; exact lexA_size vs k
    · exact lexA_size vs k
theorem lexA_defers (vs : Nat → Value) : ∀ k, (lexA fl l a0 vs k).defers = a0.defers
  | 0 => rfl
  | k + 1 => by
    simp only [lexA]
    split
    · split
      · exact lexA_defers vs k
      · rw [defers_put]; exact lexA_defers vs k
    · exact lexA_defers vs k
/-- A slot that no walked operation writes. -/
theorem lexA_old (vs : Nat → Value) (t : Nat) : ∀ k, (∀ j o, j < k → l[j]? = some o → o.dst = some t → fl.contains j = true) → (lexA fl l a0 vs k).tmps.getD t undef = a0.tmps.getD t undef
  | 0, _ => rfl
  | k + 1, h => by
    have ih := lexA_old vs t k fun j o hj => h j o (by omega)
    simp only [lexA]
    split
    · rename_i o ho
      split
      · exact ih
      · rename_i hf
        rw [getD_put_other fun e => hf (h k o (by omega) ho e)]
        exact ih
    · exact ih
/-- A slot that one walked operation writes. -/
theorem lexA_new (vs : Nat → Value) (t j : Nat) (o : Oper) (ho : l[j]? = some o) (hd : o.dst = some t) (hf : fl.contains j = false) (ht : t < a0.tmps.size) :
    ∀ k, j < k → (∀ j' o', j' < k → l[j']? = some o' → o'.dst = some t → j' = j) → (lexA fl l a0 vs k).tmps.getD t undef = vs j
  | 0, h, _ => by omega
  | k + 1, h, hu => by
    simp only [lexA]
    by_cases hkj : k = j
    · subst hkj
      rw [ho]
      simp only [hf]
      rw [hd]
      simp only [Bool.false_eq_true, if_false]
      exact getD_put_same (by rw [lexA_size]; exact ht)
    · have ih := lexA_new vs t j o ho hd hf ht k (by omega) fun j' o' hj' => hu j' o' (by omega)
      split
      · rename_i o' ho'
        split
        · exact ih
        · rw [getD_put_other fun e => hkj (hu k o' (by omega) ho' e)]
          exact ih
      · exact ih
theorem mem_lexG {Φs : Nat → Value → World → Prop} {t : Nat} {Ψ : Value → World → Prop} : ∀ {k}, (t, Ψ) ∈ lexG fl l Φs k → ∃ j o, j < k ∧ l[j]? = some o ∧ fl.contains j = true ∧ o.dst.getD 0 = t ∧ Ψ = Φs j
  | 0, h => by simp [lexG] at h
  | k + 1, h => by
    simp only [lexG] at h
    split at h
    · rename_i o ho
      split at h
      · rename_i hf
        rcases List.mem_cons.1 h with h1 | h1
        · simp only [Prod.mk.injEq] at h1
          exact ⟨k, o, by omega, ho, hf, h1.1.symm, h1.2⟩
        · obtain ⟨j, o', q1, q2⟩ := mem_lexG h1
          exact ⟨j, o', by omega, q2⟩
      · obtain ⟨j, o', q1, q2⟩ := mem_lexG h
        exact ⟨j, o', by omega, q2⟩
    · obtain ⟨j, o', q1, q2⟩ := mem_lexG h
      exact ⟨j, o', by omega, q2⟩
theorem lexG_mem {Φs : Nat → Value → World → Prop} {j : Nat} {o : Oper} (ho : l[j]? = some o) (hf : fl.contains j = true) : ∀ {k}, j < k → (o.dst.getD 0, Φs j) ∈ lexG fl l Φs k
  | 0, h => by omega
  | k + 1, h => by
    simp only [lexG]
    by_cases hkj : k = j
    · subst hkj
      rw [ho]
      simp only [hf, if_true]
      exact List.mem_cons_self
    · have ih := lexG_mem (Φs := Φs) ho hf (k := k) (by omega)
      split
      · split
        · exact List.mem_cons_of_mem _ ih
        · exact ih
      · exact ih

structure MInv (n : Nat) (vs : Nat → Value) (Φs : Nat → Value → World → Prop) (listed : Array Bool) (a : Act) (W : World) : Prop where
  head : HeadInv .any l.toArray n listed
  cls : Grew w0 W
  size : a.tmps.size = a0.tmps.size
  defers : a.defers = a0.defers
  other : ∀ t, (∀ j o, j < n → l[j]? = some o → o.dst = some t → listed.getD j false = false) → a.tmps.getD t undef = a0.tmps.getD t undef
  known : ∀ j o d, j < n → l[j]? = some o → o.dst = some d → listed.getD j false = true → fl.contains j = false → a.tmps.getD d undef = vs j
  phi : ∀ j o d, j < n → l[j]? = some o → o.dst = some d → listed.getD j false = true → fl.contains j = true → Φs j (a.tmps.getD d undef) W
end

theorem count_set (listed : Array Bool) (i : Nat) (hx : i < listed.size) (hun : listed.getD i false = false) : ∀ n, i < n →
    (List.range n).countP (fun j => !(listed.setIfInBounds i true).getD j false) + 1 = (List.range n).countP (fun j => !listed.getD j false)
  | 0, h => by omega
  | n + 1, h => by
    rw [List.range_succ, List.countP_append, List.countP_append]
    by_cases hin : i = n
    · subst hin
      have e2 : (List.range i).countP (fun j => !(listed.setIfInBounds i true).getD j false) = (List.range i).countP (fun j => !listed.getD j false) := by
        apply List.countP_congr
        intro j hj
        rw [getD_set_ne false (by have := List.mem_range.1 hj; omega)]
      have e3 : (listed.setIfInBounds i true).getD i false = true := by simp [hx]
      simp only [List.countP_cons, List.countP_nil]
      rw [e2, e3, hun]; simp
    · have ih := count_set listed i hx hun n (by omega)
      have e3 : (listed.setIfInBounds i true).getD n false = listed.getD n false := getD_set_ne false hin
      simp only [List.countP_cons, List.countP_nil]
      rw [e3]; omega

theorem wp_region_mix {P : Program} {id : Nat} {Q : Exit → Act → World → Prop} {a0 : Act} {w : World} {l : List Oper} (fl : List Nat) (n : Nat) (hm : P.follows .mixedOrders = true) (hok : mixOk fl a0.tmps.size n l = true)
    (h : wpMix P w fl (fun Γ a => ∀ (b : Act) (W : World), Grew w W → b.tmps.size = a.tmps.size → b.defers = a.defers → (∀ t, t ∉ Γ.map Prod.fst → b.tmps.getD t undef = a.tmps.getD t undef) →
      (∀ t Ψ, (t, Ψ) ∈ Γ → Ψ (b.tmps.getD t undef) W) → wpList P l.toArray Q (l.drop n) b W) (l.take n) 0 [] a0) : (Code.region id l.toArray true).wp P Q a0 w := by
  simp only [mixOk, Bool.and_eq_true, decide_eq_true_eq] at hok
  obtain ⟨⟨⟨⟨hmix, hn⟩, hs⟩, hc⟩, hseq⟩ := hok
  have spec := mixFrom_spec (fl := fl) (m := a0.tmps.size) (n := n) (all := l) l 0 [] (fun j => by simp) (fun j oj d hj => by omega) hmix
  have edges := mixFrom_edges l 0 [] hmix
  obtain ⟨vs, Φs, -, -, hsh, hfin⟩ := mix_extract P w fl l a0 (n := n) (by omega) n 0 (fun _ => undef) (fun _ _ _ => True) rfl (Nat.zero_le _) h
  have hn' : n < l.toArray.size := by simpa using hn
  refine wp_region_any hm ?_
  have main : ∀ (fuel : Nat) (listed : Array Bool) (a : Act) (W : World), (List.range n).countP (fun j => !listed.getD j false) = fuel → MInv w fl l a0 n vs Φs listed a W →
      wpAny P .any l.toArray Q (fuel + (l.length - n)) listed a W := by
    intro fuel
    induction fuel with
    | zero =>
      intro listed a W hcnt inv
      have hsz : listed.size = l.length := by simpa using inv.head.size
      have hall : ∀ j, j < n → listed.getD j false = true := fun j hj => by
        have h0 := List.countP_eq_zero.1 hcnt j (List.mem_range.2 hj)
        simpa using h0
      have hlist : listed = (List.replicate n true ++ List.replicate (l.length - n) false).toArray := by
        apply Array.ext_getElem?
        intro i
        rcases Nat.lt_or_ge i n with hi | hi
        · have := hall i hi
          have hi2 : i < listed.size := by omega
          simp [hi2] at this
          have e5 : (List.replicate n true ++ List.replicate (l.length - n) false)[i]? = some true := by
            rw [List.getElem?_append_left (by simpa using hi)]
            simp [hi]
          simp [e5, hi2, this]
        · rcases Nat.lt_or_ge i l.length with hi2 | hi2
          · have := inv.head.tail i hi (by simpa using hi2)
            have hi3 : i < listed.size := by omega
            simp [hi3] at this
            simp [hi3, this, List.getElem?_append_right, hi, List.getElem?_replicate]
            omega
          · rw [Array.getElem?_eq_none (by omega), Array.getElem?_eq_none (by simp; omega)]
      rw [Nat.zero_add]
      have := wpAny_of_seq (P := P) (md := .any) (ops := l.toArray) (Q' := Q) (l.drop n) n listed a W (fun j => by simp [List.getElem?_drop]) (by
        rw [List.length_drop, hlist]; exact hseq) (hfin a W inv.cls (by rw [lexA_size]; exact inv.size) (by rw [lexA_defers]; exact inv.defers) (fun t ht => ?_) (fun t Ψ hΨ => ?_))
      · rwa [List.length_drop] at this
      · by_cases hw : ∃ j o, j < n ∧ l[j]? = some o ∧ o.dst = some t
        · obtain ⟨j, o, hj, ho, hd⟩ := hw
          have sj := spec j o ho (by omega)
          rw [Nat.zero_add] at sj
          have hf : fl.contains j = false := by
            cases hfj : fl.contains j with
            | false => rfl
            | true =>
              have := lexG_mem fl l (Φs := Φs) ho hfj (k := n) hj
              rw [hd] at this
              exact absurd (List.mem_map.2 ⟨_, this, rfl⟩) ht
          rw [inv.known j o t hj ho hd (hall j hj) hf, lexA_new fl l a0 vs t j o ho hd hf (sj.fresh t hd).1 n hj fun j' o' hj' ho' hd' => (sj.fresh t hd).2 j' o' hj' ho' hd']
        · rw [inv.other t fun j o hj ho hd => absurd ⟨j, o, hj, ho, hd⟩ hw, lexA_old fl l a0 vs t n fun j o hj ho hd => absurd ⟨j, o, hj, ho, hd⟩ hw]
      · obtain ⟨j, o, hj, ho, hf, hd, rfl⟩ := mem_lexG fl l hΨ
        have sj := spec j o ho (by omega)
        rw [Nat.zero_add] at sj
        obtain ⟨d, hd'⟩ := sj.flag hf
        rw [hd'] at hd
        simp at hd
        subst hd
        exact inv.phi j o d hj ho hd' (hall j hj) hf
    | succ fuel ih =>
      intro listed a W hcnt inv
      rw [show fuel + 1 + (l.length - n) = (fuel + (l.length - n)) + 1 by omega]
      have hsz : listed.size = l.length := by simpa using inv.head.size
      have hex : ∃ j, j < n ∧ listed.getD j false = false := by
        have : 0 < (List.range n).countP (fun j => !listed.getD j false) := by omega
        obtain ⟨j, hj, hj2⟩ := List.countP_pos_iff.1 this
        exact ⟨j, List.mem_range.1 hj, by simpa using hj2⟩
      obtain ⟨j0, hj0, hun0⟩ := hex
      refine ⟨fun hr0 => ?_, fun i hi => ?_⟩
      · exfalso
        have hstrong : ∀ m j, j = m → j < n → listed.getD j false = false → False := by
          intro m
          induction m using Nat.strongRecOn with
          | _ m ihm =>
            intro j hjm hj hun
            have hnot : j ∉ Region.ready .any l.toArray listed := by rw [hr0]; simp
            apply hnot
            have hjl : j < l.length := by omega
            have ho : l[j]? = some l[j] := List.getElem?_eq_getElem hjl
            refine mem_ready.2 ⟨by simp [hsz, hjl] at hun ⊢; exact hun, l[j], by simp [hjl], fun e he hb => ?_⟩
            have hlt := (edges j l[j] ho e he).1
            cases hl : listed.getD e.on false with
            | true => rfl
            | false => exact (ihm e.on (by omega) e.on rfl (by omega) hl).elim
        exact hstrong j0 j0 rfl hj0 hun0
      · have hin : i < n := by
          rcases Nat.lt_or_ge i n with h' | h'
          · exact h'
          · exact absurd hi (tail_waits hs hc hn' inv.head _ j0 rfl hj0 (getD_in (by omega) hun0) i h')
        obtain ⟨h1, o, h2, h3⟩ := mem_ready.1 hi
        have ho : l[i]? = some o := by simpa using h2
        have hun : listed.getD i false = false := getD_both h1
        have si := spec i o ho (by omega)
        rw [Nat.zero_add] at si
        have ei := edges i o ho
        -- what the operands hold
        have wr : ∀ t, Operand.tmp t ∈ o.op.operands → ∀ j oj, j < n → l[j]? = some oj → oj.dst = some t → j < i ∧ listed.getD j false = true ∧ (fl.contains i = true ∨ fl.contains j = false) := fun t ht j oj hj hoj hd => by
          obtain ⟨⟨e, he, hej⟩, hf⟩ := si.reads t ht j oj hj hoj hd
          have hb := ei e he
          have := h3 e he hb.2
          rw [hej] at this
          exact ⟨by have := hb.1; omega, this, hf⟩
        have same : ∀ x ∈ o.op.operands, (∀ t, x = .tmp t → ∀ j oj, j < n → l[j]? = some oj → oj.dst = some t → fl.contains j = false) → a.eval x = (lexA fl l a0 vs i).eval x := fun x hx hfx => by
          cases x with
          | tmp t =>
            show a.tmps.getD t undef = (lexA fl l a0 vs i).tmps.getD t undef
            by_cases hw : ∃ j oj, j < n ∧ l[j]? = some oj ∧ oj.dst = some t
            · obtain ⟨j, oj, hj, hoj, hd⟩ := hw
              obtain ⟨hji, hlj, -⟩ := wr t hx j oj hj hoj hd
              have hf := hfx t rfl j oj hj hoj hd
              have sj := spec j oj hoj (by omega)
              rw [Nat.zero_add] at sj
              rw [inv.known j oj t hj hoj hd hlj hf, lexA_new fl l a0 vs t j oj hoj hd hf (sj.fresh t hd).1 i hji fun j' o' hj' ho' hd' => (sj.fresh t hd).2 j' o' (by omega) ho' hd']
            · rw [inv.other t fun j o hj ho hd => absurd ⟨j, o, hj, ho, hd⟩ hw, lexA_old fl l a0 vs t i fun j o hj ho hd => absurd ⟨j, o, by omega, ho, hd⟩ hw]
          | const v => rfl
          | global g => rfl
          | func f => rfl
        have next : ∀ v W', Grew W W' → (fl.contains i = false → ∀ d, o.dst = some d → v = vs i) → (fl.contains i = true → Φs i v W') → wpAny P .any l.toArray Q (fuel + (l.length - n)) (listed.setIfInBounds i true) (a.put o.dst v) W' := by
          intro v W' hg hk hp
          have hset : ∀ j, j ≠ i → (listed.setIfInBounds i true).getD j false = listed.getD j false := fun j hj => getD_set_ne false (Ne.symm hj)
          have hndst : ∀ j oj d, j < n → j ≠ i → l[j]? = some oj → oj.dst = some d → o.dst ≠ some d := fun j oj d hj hji hoj hd e =>
            hji ((si.fresh d e).2 j oj hj hoj hd)
          refine ih _ _ _ ?_ ⟨inv.head.set hi hin, inv.cls.trans hg, by rw [size_put]; exact inv.size, by rw [defers_put]; exact inv.defers, fun t ht => ?_, fun j oj d hj hoj hd hlj hf => ?_, fun j oj d hj hoj hd hlj hf => ?_⟩
          · have e1 := count_set listed i (by omega) hun n hin
            omega
          · have hni : o.dst ≠ some t := fun e => by
              have := ht i o hin ho e
              have hx : i < listed.size := by omega
              simp [hx] at this
            rw [getD_put_other hni]
            refine inv.other t fun j oj hj hoj hd => ?_
            have := ht j oj hj hoj hd
            by_cases hji : j = i
            · subst hji; exact hun
            · rw [hset j hji] at this; exact this
          · by_cases hji : j = i
            · subst hji
              have : oj = o := Option.some.inj (hoj.symm.trans ho)
              subst this
              rw [hd, getD_put_same (by rw [inv.size]; exact (si.fresh d hd).1)]
              exact hk hf d hd
            · rw [getD_put_other (hndst j oj d hj hji hoj hd)]
              rw [hset j hji] at hlj
              exact inv.known j oj d hj hoj hd hlj hf
          · by_cases hji : j = i
            · subst hji
              have : oj = o := Option.some.inj (hoj.symm.trans ho)
              subst this
              rw [hd, getD_put_same (by rw [inv.size]; exact (si.fresh d hd).1)]
              exact hp hf
            · rw [getD_put_other (hndst j oj d hj hji hoj hd)]
              rw [hset j hji] at hlj
              have := hsh j oj (Nat.zero_le _) hj hoj
              unfold Shown at this
              rw [if_pos hf] at this
              exact this.1 _ _ _ hg (inv.phi j oj d hj hoj hd hlj hf)
        unfold wpOp
        simp only [h2]
        rw [if_pos (by simp [Region.wanted, si.guard])]
        refine .inl ?_
        have hsi := hsh i o (Nat.zero_le _) hin ho
        unfold Shown at hsi
        cases hf : fl.contains i with
        | true =>
          rw [if_pos hf] at hsi
          refine wp_of_does (hsi.2 W a.eval inv.cls (fun x hx hxΓ => same x hx fun t hxt j oj hj hoj hd => ?_) (fun t Ψ hΨ ht => ?_)) fun v W' hv => next v W' hv.2 (fun h' => by rw [hf] at h'; cases h') fun _ => hv.1
          · cases hfj : fl.contains j with
            | false => rfl
            | true =>
              have hji := (wr t (hxt ▸ hx) j oj hj hoj hd).1
              have := lexG_mem fl l (Φs := Φs) hoj hfj hji
              rw [hd] at this
              exact absurd (List.mem_map.2 ⟨_, this, rfl⟩) (hxΓ t hxt)
          · obtain ⟨j, oj, hji, hoj, hfj, hd, rfl⟩ := mem_lexG fl l hΨ
            have sj := spec j oj hoj (by omega)
            rw [Nat.zero_add] at sj
            obtain ⟨d, hd'⟩ := sj.flag hfj
            rw [hd'] at hd
            simp at hd
            subst hd
            exact inv.phi j oj d (by omega) hoj hd' (wr d ht j oj (by omega) hoj hd').2.1 hfj
        | false =>
          rw [if_neg (by rw [hf]; exact Bool.false_ne_true)] at hsi
          have he : execOp a.eval o = execOp (lexA fl l a0 vs i).eval o := execOp_congr o si.sel fun x hx => same x hx fun t hxt j oj hj hoj hd => by
            rcases (wr t (hxt ▸ hx) j oj hj hoj hd).2.2 with h' | h'
            · rw [hf] at h'; cases h'
            · exact h'
          have hdo := hsi W inv.cls
          unfold does at hdo
          rw [← he] at hdo
          exact wp_of_does (K := fun u W' => u = vs i ∧ Grew W W') hdo fun v W' hv => next v W' hv.2 (fun _ _ _ => hv.1) fun h' => by rw [hf] at h'; cases h'
  have hsz0 : (List.range n).countP (fun j => !(Array.replicate l.toArray.size false).getD j false) = n := by
    rw [List.countP_eq_length.2]
    · simp
    · intro j hj
      rw [getD_replicate_false]; rfl
  have := main n (Array.replicate l.toArray.size false) a0 { w with drawn := w.drawn + 1 } hsz0
    ⟨⟨by simp, fun j oj _ hl => (by rw [getD_replicate_false] at hl; cases hl), fun t _ ht => getD_in (by simpa using ht) (getD_replicate_false _ _)⟩, (Grew.refl w).drew, rfl, rfl, fun _ _ => rfl,
      fun j oj d _ _ _ hl => (by rw [getD_replicate_false] at hl; cases hl), fun j oj d _ _ _ hl => (by rw [getD_replicate_false] at hl; cases hl)⟩
  rw [show n + (l.length - n) = l.toArray.size by simp; omega] at this
  exact this

/-- A frame that differs from a known one in some slots. -/
theorem frame_puts {a b : Act} : ∀ {ds : List Nat}, b.tmps.size = a.tmps.size → b.defers = a.defers → (∀ t, t ∉ ds → b.tmps.getD t undef = a.tmps.getD t undef) → b = ds.foldl (fun x d => x.put (some d) (b.tmps.getD d undef)) a
  | [], hs, hd, hb => by
    obtain ⟨t, d⟩ := a
    obtain ⟨t', d'⟩ := b
    simp only at hs hd
    subst hd
    show Act.mk t' d' = Act.mk t d'
    congr 1
    apply Array.ext
    · exact hs
    · intro i h1 h2
      have := hb i (by simp)
      simpa [h1, h2] using this
  | d :: ds, hs, hd, hb => by
    show b = ds.foldl _ (a.put (some d) (b.tmps.getD d undef))
    refine frame_puts (by rw [size_put]; exact hs) (by rw [defers_put]; exact hd) fun t ht => ?_
    by_cases htd : t = d
    · subst htd
      rcases Nat.lt_or_ge t a.tmps.size with h | h
      · rw [getD_put_same h]
      · have h1 : (a.put (some t) (b.tmps.getD t undef)).tmps.getD t undef = undef := by simp [Act.put, h]
        rw [h1]
        simp [hs, h]
    · rw [getD_put_other (by simp; exact fun e => htd e.symm)]
      exact hb t (by simp [htd, ht])
end Go.Proofs.Ytabkdmcmfecokaa
