/- Locks: LocksCovers: two reads of one transaction; in plain words. -/
import Derived.Test.YtbpioemenmahaaaG1
set_option linter.unusedVariables false
set_option linter.unusedSimpArgs false
set_option linter.unnecessarySimpa false
namespace Go.Proofs.Ytbpioemenmahaaa
open Go.Sym

theorem covR1 {t : Tgt} {r : Int} {S' : List Lk} (h : ReadR 5 [] 1 t r S') : (mayT t = true ∧ r = 0 ∧ S' = [⟨1, t⟩]) ∨ (mayT t = false ∧ r = 1 ∧ S' = []) := by
  rcases h with ⟨h1, h2, h3⟩ | ⟨_, h2, _⟩ | ⟨h1, h2, h3⟩
  · cases hm : mayT t with
    | true => exact absurd ⟨by omega, hm⟩ h1
    | false => exact .inr ⟨rfl, h2, h3⟩
  · simp [hasT] at h2
  · have e : addT [] 1 t = [⟨1, t⟩] := rfl
    rw [e] at h3
    rcases h3 with ⟨hc, hr⟩ | ⟨S2, hc, _⟩
    · exact .inl ⟨h1.2, hr, (co_done (by simp; omega) hc).1⟩
    · cases (co_done (by simp; omega) hc).2
theorem covR2 {x y : Tgt} {r : Int} {S' : List Lk} (h : ReadR 5 [⟨1, x⟩] 1 y r S') : (mayT y = false ∧ r = 1 ∧ S' = [⟨1, x⟩]) ∨ (mayT y = true ∧ coversT x y = true ∧ r = 0 ∧ S' = [⟨1, x⟩]) ∨
    (mayT y = true ∧ coversT x y = false ∧ coversT y x = true ∧ r = 0 ∧ S' = [⟨1, y⟩]) ∨ (mayT y = true ∧ coversT x y = false ∧ coversT y x = false ∧ r = 0 ∧ S' = [⟨1, x⟩, ⟨1, y⟩]) := by
  have hh : hasT [⟨1, x⟩] 1 y = (mayT y && coversT x y) := by simp [hasT]
  rcases h with ⟨h1, h2, h3⟩ | ⟨h1, h2, h3, h4⟩ | ⟨h1, h2, h3⟩
  · cases hm : mayT y with
    | true => exact absurd ⟨by omega, hm⟩ h1
    | false => exact .inl ⟨rfl, h2, h3⟩
  · rw [hh, h1.2] at h2
    exact .inr (.inl ⟨h1.2, by simpa using h2, h3, h4⟩)
  · rw [hh, h1.2] at h2
    have h2 : coversT x y = false := by simpa using h2
    cases hc : coversT y x with
    | true =>
      have e : addT [⟨1, x⟩] 1 y = [⟨1, y⟩] := by simp [addT, hc]
      rw [e] at h3
      rcases h3 with ⟨hc2, hr⟩ | ⟨S2, hc2, _⟩
      · exact .inr (.inr (.inl ⟨h1.2, h2, rfl, hr, (co_done (by simp; omega) hc2).1⟩))
      · cases (co_done (by simp; omega) hc2).2
    | false =>
      have e : addT [⟨1, x⟩] 1 y = [⟨1, x⟩, ⟨1, y⟩] := by simp [addT, hc]
      rw [e] at h3
      rcases h3 with ⟨hc2, hr⟩ | ⟨S2, hc2, _⟩
      · exact .inr (.inr (.inr ⟨h1.2, h2, rfl, hr, (co_done (by simp; omega) hc2).1⟩))
      · cases (co_done (by simp; omega) hc2).2
theorem refCov_eq {a b : Tgt} (h : mayT a = true) : refCoversT a b = coversT a b := by
  obtain ⟨k, t, p, s⟩ := a
  obtain ⟨k', t', p', s'⟩ := b
  unfold mayT at h
  unfold refCoversT coversT tableT pageT
  simp only at h ⊢
  rw [Bool.eq_iff_iff]
  simp only [Bool.or_eq_true, Bool.and_eq_true, decide_eq_true_eq, beq_iff_eq, Tgt.mk.injEq]
  split at h
  · simp only [Bool.and_eq_true, decide_eq_true_eq] at h
    omega
  · split at h
    · simp only [Bool.and_eq_true, decide_eq_true_eq] at h
      omega
    · split at h
      · simp only [Bool.and_eq_true, decide_eq_true_eq] at h
        omega
      · cases h
end Go.Proofs.Ytbpioemenmahaaa
