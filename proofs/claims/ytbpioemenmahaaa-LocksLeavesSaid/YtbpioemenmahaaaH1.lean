/- Locks: what is held stays held when locks are laid and promoted; in plain words. -/
import Derived.Test.YtbpioemenmahaaaC3
set_option linter.unusedVariables false
set_option linter.unusedSimpArgs false
set_option linter.unnecessarySimpa false
namespace Go.Proofs.Ytbpioemenmahaaa
open Go.Sym

theorem coversT_trans {a b c : Tgt} (h1 : coversT a b = true) (h2 : coversT b c = true) : coversT a c = true := by
  simp only [coversT, Bool.or_eq_true, Bool.and_eq_true, beq_iff_eq] at h1 h2 ⊢
  rcases h1 with (h1 | h1) | ⟨hk, h1⟩
  · subst h1; exact h2
  · rcases h2 with (h2 | h2) | ⟨hk2, h2⟩
    · subst h2; exact .inl (.inr h1)
    · subst h2; exact .inl (.inr h1)
    · subst h2; exact .inl (.inr h1)
  · rcases h2 with (h2 | h2) | ⟨hk2, h2⟩
    · subst h2; exact .inr ⟨hk, h1⟩
    · subst h2; simp [tableT] at hk
    · subst h2; simp [pageT] at hk
theorem hasT_iff {S : List Lk} {tx : Int} {t : Tgt} : hasT S tx t = true ↔ mayT t = true ∧ ∃ k ∈ S, k.tx = tx ∧ coversT k.on t = true := by
  unfold hasT
  simp [List.any_eq_true]
theorem hasT_add {S : List Lk} {tx tx' : Int} {t t' : Tgt} (h : hasT S tx' t' = true) : hasT (addT S tx t) tx' t' = true := by
  rw [hasT_iff] at h ⊢
  obtain ⟨hm, k, hk, hx, hc⟩ := h
  refine ⟨hm, ?_⟩
  by_cases hf : k.tx = tx ∧ coversT t k.on = true
  · exact ⟨⟨tx, t⟩, by simp [addT], hf.1.symm.trans hx, coversT_trans hf.2 hc⟩
  · refine ⟨k, ?_, hx, hc⟩
    unfold addT
    refine List.mem_append_left _ (List.mem_filter.2 ⟨hk, ?_⟩)
    by_cases h1 : k.tx = tx
    · have : coversT t k.on = false := by simpa using fun e => hf ⟨h1, e⟩
      simp [this]
    · simp [h1]
theorem hasT_new (S : List Lk) {tx : Int} {t : Tgt} (hm : mayT t = true) : hasT (addT S tx t) tx t = true := by
  rw [hasT_iff]
  exact ⟨hm, ⟨tx, t⟩, by simp [addT], rfl, coversT_self t⟩
theorem hasT_co {most : Int} {S S' : List Lk} {ok : Bool} (hc : Co most S S' ok) {tx : Int} {t : Tgt} (h : hasT S tx t = true) : hasT S' tx t = true := by
  induction hc with
  | done _ => exact h
  | page _ _ _ ih => exact ih (hasT_add h)
  | table _ _ _ _ ih => exact ih (hasT_add h)
  | fail _ _ _ => exact h
theorem co_len {most : Int} {S S' : List Lk} {ok : Bool} (hc : Co most S S' ok) (ho : ok = true) : (S'.length : Int) ≤ max most 1 := by
  induction hc with
  | done h => omega
  | page _ _ _ ih => exact ih ho
  | table _ _ _ _ ih => exact ih ho
  | fail _ _ _ => cases ho
theorem hasT_drop {S : List Lk} {tx tx' : Int} {t : Tgt} (hne : tx' ≠ tx) (h : hasT S tx' t = true) : hasT (dropT S tx) tx' t = true := by
  rw [hasT_iff] at h ⊢
  obtain ⟨hm, k, hk, hx, hc⟩ := h
  exact ⟨hm, k, List.mem_filter.2 ⟨hk, by simp; omega⟩, hx, hc⟩
theorem hasT_dropped (S : List Lk) (tx : Int) (t : Tgt) : hasT (dropT S tx) tx t = false := by
  cases h : hasT (dropT S tx) tx t with
  | false => rfl
  | true =>
    rw [hasT_iff] at h
    obtain ⟨_, k, hk, hx, _⟩ := h
    have := (List.mem_filter.1 hk).2
    simp [hx] at this
end Go.Proofs.Ytbpioemenmahaaa
