/- Locks: group. -/
import Derived.Test.YtbpioemenmahaaaA9
set_option linter.unusedVariables false
set_option linter.unusedSimpArgs false
set_option linter.unnecessarySimpa false
namespace Go.Proofs.Ytbpioemenmahaaa
open Go.Sym

/-! counts -/
def mv (M : List (Lk × Nat)) : List (Lk × Value) := M.map fun p => (p.1, .int .i64 p.2)
def cM (M : List (Lk × Nat)) (x : Lk) : Nat := ((M.find? fun p => p.1 = x).map (·.2)).getD 0
def hasM (M : List (Lk × Nat)) (x : Lk) : Bool := M.any fun p => p.1 = x
def setM (M : List (Lk × Nat)) (x : Lk) (n : Nat) : List (Lk × Nat) := if hasM M x then M.map (fun p => if p.1 = x then (p.1, n) else p) else M ++ [(x, n)]
theorem lookV_mv (M : List (Lk × Nat)) (x : Lk) : lookV (mv M) x = (M.find? fun p => p.1 = x).map fun p => .int .i64 p.2 := by
  induction M with
  | nil => rfl
  | cons p M ih =>
    unfold mv at *
    rw [List.map_cons, lookV_cons, ih]
    by_cases h : p.1 = x <;> simp [h]
theorem lookEq3 (M : List (Lk × Nat)) (x : Lk) : (lookV (mv M) x).getD (.int .i64 0) = .int .i64 (cM M x) := by
  rw [lookV_mv]; unfold cM
  cases M.find? fun p => p.1 = x <;> rfl
theorem lookEq4 (M : List (Lk × Nat)) (x : Lk) : (lookV (entV (mv M) x (.int .i64 0)) x).getD (.int .i64 0) = .int .i64 (cM M x) := by
  rw [lookV_entV, lookEq3]
theorem hasK_mv (M : List (Lk × Nat)) (x : Lk) : hasK (mv M) x = hasM M x := by
  unfold hasK hasM mv
  rw [List.any_map]; rfl
theorem putV_mv (M : List (Lk × Nat)) (x : Lk) (n : Nat) : putV (mv M) x (.int .i64 n) = mv (setM M x n) := by
  unfold putV setM
  rw [hasK_mv]
  split
  · simp only [mv, List.map_map]
    apply List.map_congr_left
    intro p _
    simp only [Function.comp]
    split <;> rfl
  · simp [mv]
theorem cM_cons (p : Lk × Nat) (M : List (Lk × Nat)) (y : Lk) : cM (p :: M) y = if p.1 = y then p.2 else cM M y := by
  unfold cM
  by_cases h : p.1 = y <;> simp [h]
theorem cM_append (M : List (Lk × Nat)) (x y : Lk) (n : Nat) (h : hasM M x = false) : cM (M ++ [(x, n)]) y = if y = x then n else cM M y := by
  induction M with
  | nil => rw [List.nil_append, cM_cons]; by_cases hy : y = x
           · simp [hy]
           · have : ¬ x = y := fun e => hy e.symm
             simp [hy, this]
  | cons p M ih =>
    simp only [hasM, List.any_cons, Bool.or_eq_false_iff] at h
    rw [List.cons_append, cM_cons, cM_cons, ih h.2]
    by_cases hp : p.1 = y
    · have : ¬ y = x := fun e => by subst e; simp [hp] at h
      simp [hp, this]
    · simp [hp]
theorem cM_setM (M : List (Lk × Nat)) (x y : Lk) (n : Nat) : cM (setM M x n) y = if y = x then n else cM M y := by
  unfold setM
  by_cases h : hasM M x = true
  · rw [if_pos h]
    induction M with
    | nil => simp [hasM] at h
    | cons p M ih =>
      rw [List.map_cons, cM_cons, cM_cons]
      by_cases hp : p.1 = x
      · simp only [hp, if_true]
        by_cases hy : y = x
        · simp [hy]
        · have h1 : ¬ x = y := fun e => hy e.symm
          simp only [h1, hy, if_false]
          by_cases hM : hasM M x = true
          · rw [ih hM, if_neg hy]
          · have : M.map (fun p => if p.1 = x then (p.1, n) else p) = M := by
              conv => rhs; rw [← List.map_id M]
              apply List.map_congr_left
              intro q hq
              rw [if_neg]; · rfl
              intro hqx
              exact hM (List.any_eq_true.2 ⟨q, hq, by simp [hqx]⟩)
            rw [this]
      · simp only [hp, if_false]
        have hM : hasM M x = true := by simpa [hasM, hp] using h
        rw [ih hM]
        by_cases hy : y = x
        · simp [hy, hp]
        · simp [hy]
  · rw [if_neg h]; exact cM_append M x y n (by simpa using h)
theorem mem_cM {M : List (Lk × Nat)} (hn : (M.map (·.1)).Nodup) {p : Lk × Nat} (hp : p ∈ M) : cM M p.1 = p.2 := by
  induction M with
  | nil => simp at hp
  | cons q M ih =>
    rw [List.map_cons, List.nodup_cons] at hn
    rw [cM_cons]
    rcases List.mem_cons.1 hp with rfl | hp
    · simp
    · rw [if_neg, ih hn.2 hp]
      intro e; exact hn.1 (List.mem_map.2 ⟨p, hp, e.symm⟩)
theorem cM_pos {M : List (Lk × Nat)} {x : Lk} (h : 0 < cM M x) : (x, cM M x) ∈ M := by
  induction M with
  | nil => simp [cM] at h
  | cons q M ih =>
    rw [cM_cons] at h ⊢
    by_cases hq : q.1 = x
    · simp only [hq, if_true]; rw [← hq]; exact List.mem_cons_self
    · simp only [hq, if_false] at h ⊢; exact List.mem_cons_of_mem _ (ih h)
theorem mv_nodup {M : List (Lk × Nat)} {es : Array MapEntry} {c : Nat} (h : MapOf encLock (mv M) es c) : (M.map (·.1)).Nodup := by
  have := h.keys
  unfold mv at this
  simpa [Function.comp_def] using this
def cnt (to : Lk → Option Lk) (V : List Lk) (x : Lk) : Nat := (V.filter fun k => decide (to k = some x)).length
theorem cnt_cons (to : Lk → Option Lk) (k : Lk) (V : List Lk) (x : Lk) : cnt to (k :: V) x = if to k = some x then cnt to V x + 1 else cnt to V x := by
  unfold cnt
  by_cases h : to k = some x <;> simp [h]
end Go.Proofs.Ytbpioemenmahaaa
