/- Locks: coarser. -/
import Derived.Test.YtbpioemenmahaaaB2
set_option linter.unusedVariables false
set_option linter.unusedSimpArgs false
set_option linter.unnecessarySimpa false
namespace Go.Proofs.Ytbpioemenmahaaa
open Go.Sym

/-- promotion until the locks fit: from S it ends at S' (ok: they fit) -/
inductive Co (most : Int) : List Lk → List Lk → Bool → Prop
  | done {S} : ¬ ((S.length : Int) > max most 1) → Co most S S true
  | page {S g S' ok} : (S.length : Int) > max most 1 → Best toPage S g → Co most (addT S g.tx g.on) S' ok → Co most S S' ok
  | table {S g S' ok} : (S.length : Int) > max most 1 → (∀ x, cnt toPage S x < 2) → Best toTable S g → Co most (addT S g.tx g.on) S' ok → Co most S S' ok
  | fail {S} : (S.length : Int) > max most 1 → (∀ x, cnt toPage S x < 2) → (∀ x, cnt toTable S x < 2) → Co most S S false
/-- a group's locks are covered by it -/
def Fits (to : Lk → Option Lk) : Prop := ∀ k g, to k = some g → k.tx = g.tx ∧ coversT g.on k.on = true
theorem fits_page : Fits toPage := by
  intro k g h
  unfold toPage at h
  split at h
  · simp only [Option.some.injEq] at h; subst h
    rename_i hk
    exact ⟨rfl, by simp [coversT, hk]⟩
  · cases h
theorem fits_table : Fits toTable := by
  intro k g h
  unfold toTable at h
  simp only [Option.some.injEq] at h; subst h
  exact ⟨rfl, by simp [coversT]⟩
theorem split_len {α : Type} (p : α → Bool) (S : List α) : (S.filter p).length + (S.filter fun k => !p k).length = S.length := by
  induction S with
  | nil => rfl
  | cons k S ih => cases h : p k <;> simp [h] <;> omega
theorem addT_lt {to : Lk → Option Lk} (hf : Fits to) {S : List Lk} {g : Lk} (h : 2 ≤ cnt to S g) : (addT S g.tx g.on).length < S.length := by
  have h1 : cnt to S g ≤ (S.filter fun k => decide (k.tx = g.tx) && coversT g.on k.on).length := by
    unfold cnt
    rw [← List.countP_eq_length_filter, ← List.countP_eq_length_filter]
    refine List.countP_mono_left fun k _ hk => ?_
    have := hf k g (by simpa using hk)
    simp [this.1, this.2]
  have h2 := split_len (fun k : Lk => decide (k.tx = g.tx) && coversT g.on k.on) S
  unfold addT
  rw [List.length_append]
  simp only [List.length_singleton]
  omega
theorem groupPage_tri {p m : Nat} {most : Int} {es : Array MapEntry} {c : Nat} {S : List Lk} (hM : MapOf encLock (lv S) es c) (hS : S.length ≤ 1000000) :
    Tri Try.prog 65 #[.pointer (some ⟨p, 0, none⟩), .func (.func 66) #[] #[]] (lBlk p m most es c) (fun v L => L = lBlk p m most es c ∧ ((∃ b, v = .tuple #[encLock b, .bool true] ∧ Best toPage S b) ∨ (∃ b, v = .tuple #[encLock b, .bool false] ∧ ∀ x, cnt toPage S x < 2))) :=
  group_tri hM hS en66 (fun k => ⟨_, _, toPage_tri k, by unfold toPage; by_cases h : k.on.kind = 1 <;> simp [h]⟩) (fun k => by
    unfold toPage; split <;> simp [pageT])
theorem groupTable_tri {p m : Nat} {most : Int} {es : Array MapEntry} {c : Nat} {S : List Lk} (hM : MapOf encLock (lv S) es c) (hS : S.length ≤ 1000000) :
    Tri Try.prog 65 #[.pointer (some ⟨p, 0, none⟩), .func (.func 67) #[] #[]] (lBlk p m most es c) (fun v L => L = lBlk p m most es c ∧ ((∃ b, v = .tuple #[encLock b, .bool true] ∧ Best toTable S b) ∨ (∃ b, v = .tuple #[encLock b, .bool false] ∧ ∀ x, cnt toTable S x < 2))) :=
  group_tri hM hS en67 (fun k => ⟨_, _, toTable_tri k, by unfold toTable; simp⟩) (fun k => by
    unfold toTable; simp [tableT])
end Go.Proofs.Ytbpioemenmahaaa
