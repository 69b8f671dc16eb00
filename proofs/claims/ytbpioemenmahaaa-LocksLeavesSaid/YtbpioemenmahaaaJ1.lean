/- Locks: Split and Merge, in plain words. -/
import Derived.Test.YtbpioemenmahaaaI1
set_option linter.unusedVariables false
set_option linter.unusedSimpArgs false
set_option linter.unnecessarySimpa false
namespace Go.Proofs.Ytbpioemenmahaaa
open Go.Sym

/-- the owners of a leaf -/
structure Owns (S : List Lk) (n leaf to : Int) (zs : List Int) : Prop where
  nodup : zs.Nodup
  sorted : zs.Pairwise (· ≤ ·)
  mem : ∀ x, x ∈ zs ↔ (0 ≤ n ∧ 0 ≤ leaf ∧ 0 ≤ to ∧ leaf ≠ to) ∧ (⟨x, leafT n leaf⟩ : Lk) ∈ S
/-- what Split does for the owners zs -/
inductive SpL (most : Int) (t : Tgt) : List Int → List Lk → List Lk → Prop
  | nil {S} : SpL most t [] S S
  | has {tx zs S S'} : hasT S tx t = true → SpL most t zs S S' → SpL most t (tx :: zs) S S'
  | lay {tx zs S S2 S' ok} : hasT S tx t = false → Co most (addT S tx t) S2 ok → SpL most t zs S2 S' → SpL most t (tx :: zs) S S'
def mgStep (fr to : Tgt) (S : List Lk) (tx : Int) : List Lk :=
  readT (S.filter fun x => !decide (x = (⟨tx, fr⟩ : Lk))) tx to
/-- what Merge does for the owners zs -/
def mgT (fr to : Tgt) (zs : List Int) (S : List Lk) : List Lk := zs.foldl (mgStep fr to) S
theorem co_le {most : Int} {S S' : List Lk} {ok : Bool} (hc : Co most S S' ok) : S'.length ≤ S.length := by
  induction hc with
  | done _ => exact Nat.le_refl _
  | page _ hb _ ih => have := addT_lt fits_page hb.1; omega
  | table _ _ hb _ ih => have := addT_lt fits_table hb.1; omega
  | fail _ _ _ => exact Nat.le_refl _
theorem mgStep_len (fr to : Tgt) (S : List Lk) (tx : Int) : (mgStep fr to S tx).length ≤ S.length + 1 := by
  unfold mgStep
  have h1 := List.length_filter_le (fun x => !decide (x = (⟨tx, fr⟩ : Lk))) S
  have h2 := readT_len (S.filter fun x => !decide (x = (⟨tx, fr⟩ : Lk))) tx to
  omega
theorem owns_len {S : List Lk} {n leaf to : Int} {zs : List Int} (h : Owns S n leaf to zs) : zs.length ≤ S.length := by
  have := nodup_len zs (S.map (·.tx)) h.nodup fun x hx => List.mem_map.2 ⟨_, ((h.mem x).1 hx).2, rfl⟩
  simpa using this
/-! ### enough room -/
theorem spl_room {most : Int} {t : Tgt} {zs : List Int} {S S' : List Lk} (h : SpL most t zs S S') : (S.length : Int) + zs.length ≤ most → S' = zs.foldl (fun S x => readT S x t) S := by
  induction h with
  | nil => intro _; rfl
  | has hh _ ih =>
    intro hl
    simp only [List.length_cons] at hl
    rw [ih (by omega), List.foldl_cons]
    congr 1
    unfold readT; rw [if_pos hh]
  | @lay tx zs S S2 S' ok hh hc _ ih =>
    intro hl
    simp only [List.length_cons] at hl
    have hlen := addT_len S tx t
    have e := (co_done (by omega) hc).1
    subst e
    rw [ih (by omega), List.foldl_cons]
    congr 1
    unfold readT; rw [hh, if_neg (by simp)]
theorem mem_addT {S : List Lk} {tx : Int} {t : Tgt} {k : Lk} : k ∈ addT S tx t ↔ (k ∈ S ∧ ¬ (k.tx = tx ∧ coversT t k.on = true)) ∨ k = ⟨tx, t⟩ := by
  unfold addT
  rw [List.mem_append, List.mem_filter, List.mem_singleton]
  by_cases h : k.tx = tx <;> simp [h]
/-- a leaf covers itself alone -/
theorem leaf_covers {n a : Int} {t : Tgt} : coversT (leafT n a) t = true ↔ t = leafT n a := by
  obtain ⟨k, tb, p, s⟩ := t
  simp only [coversT, leafT, tableT, pageT, Bool.or_eq_true, Bool.and_eq_true, beq_iff_eq, Tgt.mk.injEq]
  omega
theorem covers_leaf {n a : Int} {t : Tgt} : coversT t (leafT n a) = true ↔ t = leafT n a ∨ t = tableT n := by
  simp [coversT, leafT]
theorem has_leaf {S : List Lk} {x n a : Int} : hasT S x (leafT n a) = true ↔ (0 ≤ n ∧ 0 ≤ a) ∧ ((⟨x, leafT n a⟩ : Lk) ∈ S ∨ (⟨x, tableT n⟩ : Lk) ∈ S) := by
  rw [hasT_iff]
  have hm : mayT (leafT n a) = true ↔ (0 ≤ n ∧ 0 ≤ a) := by simp [mayT, leafT]
  rw [hm]
  constructor
  · rintro ⟨h1, ⟨tx, on⟩, h2, h3, h4⟩
    refine ⟨h1, ?_⟩
    simp only at h3 h4
    subst h3
    rcases covers_leaf.1 h4 with e | e
    · subst e; exact .inl h2
    · subst e; exact .inr h2
  · rintro ⟨h1, h2 | h2⟩
    · exact ⟨h1, _, h2, rfl, covers_leaf.2 (.inl rfl)⟩
    · exact ⟨h1, _, h2, rfl, covers_leaf.2 (.inr rfl)⟩
theorem has_table {S : List Lk} {x n : Int} : hasT S x (tableT n) = true ↔ 0 ≤ n ∧ (⟨x, tableT n⟩ : Lk) ∈ S := by
  rw [hasT_iff]
  have hm : mayT (tableT n) = true ↔ 0 ≤ n := by simp [mayT, tableT]
  have hc : ∀ t, coversT t (tableT n) = true ↔ t = tableT n := fun t => by simp [coversT, tableT]
  rw [hm]
  constructor
  · rintro ⟨h1, ⟨tx, on⟩, h2, h3, h4⟩
    simp only at h3 h4
    subst h3
    rw [hc] at h4
    subst h4
    exact ⟨h1, h2⟩
  · rintro ⟨h1, h2⟩
    exact ⟨h1, _, h2, rfl, (hc _).2 rfl⟩
theorem mem_readLeaf {S : List Lk} {tx n a : Int} (h0 : 0 ≤ n ∧ 0 ≤ a) {k : Lk} : k ∈ readT S tx (leafT n a) ↔ k ∈ S ∨ (k = ⟨tx, leafT n a⟩ ∧ (⟨tx, tableT n⟩ : Lk) ∉ S) := by
  unfold readT
  cases hh : hasT S tx (leafT n a) with
  | true =>
    simp only [if_true]
    rw [has_leaf] at hh
    constructor
    · exact .inl
    · rintro (h | ⟨rfl, h⟩)
      · exact h
      · exact hh.2.elim id fun h2 => absurd h2 h
  | false =>
    simp only [Bool.false_eq_true, if_false]
    have hn : ¬ ((⟨tx, leafT n a⟩ : Lk) ∈ S ∨ (⟨tx, tableT n⟩ : Lk) ∈ S) := fun h => by
      have := has_leaf.2 ⟨h0, h⟩
      rw [hh] at this; cases this
    rw [mem_addT]
    constructor
    · rintro (⟨h1, _⟩ | rfl)
      · exact .inl h1
      · exact .inr ⟨rfl, fun h => hn (.inr h)⟩
    · rintro (h1 | ⟨rfl, _⟩)
      · refine .inl ⟨h1, fun ⟨h2, h3⟩ => hn (.inl ?_)⟩
        rw [leaf_covers] at h3
        obtain ⟨ktx, kon⟩ := k
        simp only at h2 h3
        subst h2; subst h3
        exact h1
      · exact .inr rfl
/-- Split, while there is room -/
theorem spl_mem {n a : Int} (h0 : 0 ≤ n ∧ 0 ≤ a) : ∀ (zs : List Int) (S : List Lk) (k : Lk), k ∈ zs.foldl (fun S x => readT S x (leafT n a)) S ↔ k ∈ S ∨ ∃ x ∈ zs, k = ⟨x, leafT n a⟩ ∧ (⟨x, tableT n⟩ : Lk) ∉ S
  | [], S, k => by simp
  | x :: zs, S, k => by
    rw [List.foldl_cons, spl_mem h0 zs, mem_readLeaf h0]
    have ht : ∀ y : Int, (⟨y, tableT n⟩ : Lk) ∈ readT S x (leafT n a) ↔ (⟨y, tableT n⟩ : Lk) ∈ S := fun y => by
      rw [mem_readLeaf h0]
      constructor
      · rintro (h | ⟨h, _⟩)
        · exact h
        · injection h with h1 h2; exact absurd h2 (by simp [tableT, leafT])
      · exact .inl
    simp only [ht, List.mem_cons, exists_eq_or_imp]
    exact or_assoc
theorem mem_mgStep {n a b : Int} (h0 : 0 ≤ n ∧ 0 ≤ b) {S : List Lk} {tx : Int} {k : Lk} : k ∈ mgStep (leafT n a) (leafT n b) S tx ↔ (k ∈ S ∧ k ≠ ⟨tx, leafT n a⟩) ∨ (k = ⟨tx, leafT n b⟩ ∧ (⟨tx, tableT n⟩ : Lk) ∉ S) := by
  unfold mgStep
  rw [mem_readLeaf h0, List.mem_filter, List.mem_filter]
  have : (⟨tx, tableT n⟩ : Lk) ≠ ⟨tx, leafT n a⟩ := fun h => by injection h with h1 h2; exact absurd h2 (by simp [tableT, leafT])
  simp [this]
/-- Merge -/
theorem mg_mem {n a b : Int} (h0 : 0 ≤ n ∧ 0 ≤ b) (hab : a ≠ b) : ∀ (zs : List Int) (S : List Lk) (k : Lk), k ∈ mgT (leafT n a) (leafT n b) zs S ↔ (k ∈ S ∧ ∀ x ∈ zs, k ≠ ⟨x, leafT n a⟩) ∨ ∃ x ∈ zs, k = ⟨x, leafT n b⟩ ∧ (⟨x, tableT n⟩ : Lk) ∉ S
  | [], S, k => by simp [mgT]
  | x :: zs, S, k => by
    have ih := mg_mem h0 hab zs (mgStep (leafT n a) (leafT n b) S x) k
    have e : mgT (leafT n a) (leafT n b) (x :: zs) S = mgT (leafT n a) (leafT n b) zs (mgStep (leafT n a) (leafT n b) S x) := rfl
    rw [e, ih, mem_mgStep h0]
    have ht : ∀ y : Int, (⟨y, tableT n⟩ : Lk) ∈ mgStep (leafT n a) (leafT n b) S x ↔ (⟨y, tableT n⟩ : Lk) ∈ S := fun y => by
      rw [mem_mgStep h0]
      constructor
      · rintro (⟨h, _⟩ | ⟨h, _⟩)
        · exact h
        · injection h with h1 h2; exact absurd h2 (by simp [tableT, leafT])
      · refine fun h => .inl ⟨h, fun h => ?_⟩
        injection h with h1 h2; exact absurd h2 (by simp [tableT, leafT])
    simp only [ht, List.mem_cons, exists_eq_or_imp, forall_eq_or_imp]
    constructor
    · rintro (⟨⟨h1, h2⟩ | h1, h3⟩ | h)
      · exact .inl ⟨h1, h2, h3⟩
      · exact .inr (.inl h1)
      · exact .inr (.inr h)
    · rintro (⟨h1, h2, h3⟩ | h1 | h)
      · exact .inl ⟨.inl ⟨h1, h2⟩, h3⟩
      · refine .inl ⟨.inr h1, fun y _ h => ?_⟩
        rw [h1.1] at h
        injection h with h2 h3
        simp [leafT] at h3
        omega
      · exact .inr h
end Go.Proofs.Ytbpioemenmahaaa
