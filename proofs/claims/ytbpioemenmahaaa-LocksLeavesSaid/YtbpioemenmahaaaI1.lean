/- Locks: reads while there is room: plain words; the order of different transactions does not matter. -/
import Derived.Test.YtbpioemenmahaaaH1
set_option linter.unusedVariables false
set_option linter.unusedSimpArgs false
set_option linter.unnecessarySimpa false
namespace Go.Proofs.Ytbpioemenmahaaa
open Go.Sym

/-- a read while there is room -/
def readT (S : List Lk) (tx : Int) (t : Tgt) : List Lk := if hasT S tx t then S else addT S tx t
theorem readR_room {most : Int} {S S' : List Lk} {tx r : Int} {t : Tgt} (h1 : 1 ≤ tx) (hm : mayT t = true) (hl : (S.length : Int) + 1 ≤ most) (h : ReadR most S tx t r S') : r = 0 ∧ S' = readT S tx t := by
  unfold readT
  have hlen := addT_len S tx t
  rcases h with ⟨h, _⟩ | ⟨_, hh, rfl, rfl⟩ | ⟨_, hh, ⟨hc, rfl⟩ | ⟨S2, hc, rfl, rfl⟩⟩
  · exact absurd ⟨h1, hm⟩ h
  · rw [if_pos hh]; exact ⟨rfl, rfl⟩
  · rw [hh, if_neg (by simp)]
    exact ⟨rfl, (co_done (by omega) hc).1⟩
  · cases (co_done (by omega) hc).2
theorem readT_len (S : List Lk) (tx : Int) (t : Tgt) : (readT S tx t).length ≤ S.length + 1 := by
  unfold readT
  have := addT_len S tx t
  split <;> omega
/-- the locks of one transaction -/
def ofT (S : List Lk) (x : Int) : List Lk := S.filter fun k => decide (k.tx = x)
theorem hasT_ofT (S : List Lk) (x : Int) (t : Tgt) : hasT (ofT S x) x t = hasT S x t := by
  unfold hasT ofT
  rw [List.any_filter]
  congr 1
  congr 1
  funext k
  by_cases h : k.tx = x <;> simp [h]
theorem ofT_addT (S : List Lk) (tx x : Int) (t : Tgt) : ofT (addT S tx t) x = if tx = x then addT (ofT S x) tx t else ofT S x := by
  unfold ofT addT
  rw [List.filter_append, List.filter_filter]
  by_cases h : tx = x
  · subst h
    simp only [if_true, List.filter_filter]
    congr 1
    · apply List.filter_congr; intro k _; exact Bool.and_comm _ _
    · simp
  · simp only [h, if_false]
    have e : (List.filter (fun k : Lk => decide (k.tx = x)) [⟨tx, t⟩]) = [] := by simp [h]
    rw [e, List.append_nil]
    apply List.filter_congr
    intro k _
    by_cases hk : k.tx = x
    · have : k.tx ≠ tx := fun e => h (e.symm.trans hk)
      simp [hk, Ne.symm h]
    · simp [hk]
theorem ofT_readT (S : List Lk) (tx x : Int) (t : Tgt) : ofT (readT S tx t) x = if tx = x then readT (ofT S x) tx t else ofT S x := by
  unfold readT
  by_cases h : tx = x
  · subst h
    rw [hasT_ofT]
    simp only [if_true]
    split
    · rfl
    · rw [ofT_addT, if_pos rfl]
  · simp only [h, if_false]
    split
    · rfl
    · rw [ofT_addT, if_neg h]
def runT (S : List Lk) (l : List (Int × Tgt)) : List Lk := l.foldl (fun S c => readT S c.1 c.2) S
theorem runT_snoc (S : List Lk) (l : List (Int × Tgt)) (c : Int × Tgt) : runT S (l ++ [c]) = readT (runT S l) c.1 c.2 := by simp [runT]
theorem runT_len (l : List (Int × Tgt)) : (runT [] l).length ≤ l.length := by
  suffices h : ∀ S : List Lk, (runT S l).length ≤ S.length + l.length by simpa using h []
  induction l with
  | nil => intro S; simp [runT]
  | cons c l ih =>
    intro S
    have h1 := ih (readT S c.1 c.2)
    have h2 := readT_len S c.1 c.2
    simp only [runT, List.foldl_cons, List.length_cons] at h1 ⊢
    omega
theorem ofT_runT (l : List (Int × Tgt)) (x : Int) : ∀ S : List Lk, ofT (runT S l) x = runT (ofT S x) (l.filter fun c => decide (c.1 = x)) := by
  induction l with
  | nil => intro S; rfl
  | cons c l ih =>
    intro S
    have h1 := ih (readT S c.1 c.2)
    rw [ofT_readT] at h1
    simp only [runT, List.foldl_cons] at h1 ⊢
    rw [h1]
    by_cases h : c.1 = x
    · simp [h, List.filter_cons]
    · simp [h, List.filter_cons]
/-- the reads of the transactions 5, 4, .. one after the other -/
def part (l : List (Int × Tgt)) : Nat → List (Int × Tgt)
  | 0 => []
  | k + 1 => part l k ++ l.filter fun c => decide (c.1 = 5 - (k : Int))
theorem part_len (l : List (Int × Tgt)) (k : Nat) : (part l k).length ≤ k * l.length := by
  induction k with
  | zero => simp [part]
  | succ k ih =>
    have := List.length_filter_le (fun c : Int × Tgt => decide (c.1 = 5 - (k : Int))) l
    rw [part, List.length_append, Nat.succ_mul]
    omega
theorem part_filter (l : List (Int × Tgt)) (x : Int) : ∀ k : Nat, (part l k).filter (fun c => decide (c.1 = x)) = if 5 - (k : Int) < x ∧ x ≤ 5 then l.filter (fun c => decide (c.1 = x)) else [] := by
  intro k
  induction k with
  | zero => rw [if_neg (by omega)]; rfl
  | succ k ih =>
    rw [part, List.filter_append, ih, List.filter_filter]
    by_cases h : x = 5 - (k : Int)
    · rw [if_neg (by omega), if_pos (by omega), List.nil_append]
      apply List.filter_congr
      intro c _
      simp only [← h, Bool.and_self]
    · have e : (l.filter fun c => decide (c.1 = x) && decide (c.1 = 5 - (k : Int))) = [] := by
        rw [List.filter_eq_nil_iff]
        intro c _
        simp only [Bool.and_eq_true, decide_eq_true_eq]
        omega
      rw [e, List.append_nil]
      by_cases h2 : 5 - (k : Int) < x ∧ x ≤ 5
      · rw [if_pos h2, if_pos (by omega)]
      · rw [if_neg h2, if_neg (by omega)]
theorem part_perm {l : List (Int × Tgt)} (h : ∀ c ∈ l, 1 ≤ c.1 ∧ c.1 ≤ 5) : (runT [] l).Perm (runT [] (part l 5)) := by
  have key : ∀ x : Int, ofT (runT [] l) x = ofT (runT [] (part l 5)) x := fun x => by
    rw [ofT_runT, ofT_runT, part_filter]
    split
    · rfl
    · rename_i hx
      have e : (l.filter fun c => decide (c.1 = x)) = [] := by
        rw [List.filter_eq_nil_iff]
        intro c hc
        have := h c hc
        simp only [decide_eq_true_eq]
        omega
      rw [e]
  rw [List.perm_iff_count]
  intro k
  have h1 : ∀ S : List Lk, List.count k S = List.count k (ofT S k.tx) := fun S => by
    unfold ofT
    rw [List.count_filter (by simp)]
  rw [h1, h1 (runT [] (part l 5)), key]
/-- the reads of one transaction are few -/
theorem part_le (l : List (Int × Tgt)) (k : Nat) : (part l k).length ≤ l.length := by
  have h : ∀ k : Nat, (part l k).length = (l.filter fun c => decide (5 - (k : Int) < c.1 ∧ c.1 ≤ 5)).length := by
    intro k
    induction k with
    | zero =>
      have e : (l.filter fun c => decide (5 - ((0 : Nat) : Int) < c.1 ∧ c.1 ≤ 5)) = [] := by
        rw [List.filter_eq_nil_iff]
        intro c _
        simp only [decide_eq_true_eq]
        omega
      rw [e]; rfl
    | succ k ih =>
      rw [part, List.length_append, ih]
      rw [← List.countP_eq_length_filter, ← List.countP_eq_length_filter, ← List.countP_eq_length_filter]
      clear ih
      induction l with
      | nil => rfl
      | cons c l ih =>
        simp only [List.countP_cons]
        rw [← ih]
        simp only [decide_eq_true_eq]
        split <;> split <;> split <;> omega
  rw [h]
  exact List.length_filter_le _ _
end Go.Proofs.Ytbpioemenmahaaa
