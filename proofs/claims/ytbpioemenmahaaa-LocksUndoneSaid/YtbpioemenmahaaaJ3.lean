/- Locks: a leaf that is split and merged back: plain words. -/
import Derived.Test.YtbpioemenmahaaaJ1
import Derived.Test.YtbpioemenmahaaaI2
set_option linter.unusedVariables false
set_option linter.unusedSimpArgs false
set_option linter.unnecessarySimpa false
namespace Go.Proofs.Ytbpioemenmahaaa
open Go.Sym

/-- no lock covers another one of the same transaction -/
def Anti (S : List Lk) : Prop := ∀ k ∈ S, ∀ k' ∈ S, k.tx = k'.tx → coversT k.on k'.on = true → k = k'
def NoLeaf (S : List Lk) (n a : Int) : Prop := ∀ x : Int, (⟨x, leafT n a⟩ : Lk) ∉ S
theorem anti_read {S : List Lk} {tx : Int} {t : Tgt} (h : Anti S) (hm : mayT t = true) : Anti (readT S tx t) := by
  unfold readT
  cases hh : hasT S tx t with
  | true => exact h
  | false =>
    simp only [Bool.false_eq_true, if_false]
    have hno : ∀ k ∈ S, k.tx = tx → coversT k.on t = false := fun k hk hx => by
      cases hc : coversT k.on t with
      | false => rfl
      | true =>
        have := hasT_iff.2 ⟨hm, k, hk, hx, hc⟩
        rw [hh] at this; cases this
    intro k hk k' hk' hx hc
    rw [mem_addT] at hk hk'
    rcases hk with ⟨h1, h2⟩ | rfl
    · rcases hk' with ⟨h3, h4⟩ | rfl
      · exact h k h1 k' h3 hx hc
      · rw [hno k h1 hx] at hc; cases hc
    · rcases hk' with ⟨h3, h4⟩ | rfl
      · exact absurd ⟨hx.symm, hc⟩ h4
      · rfl
theorem noLeaf_read {S : List Lk} {tx n a : Int} {t : Tgt} (h : NoLeaf S n a) (hne : t ≠ leafT n a) : NoLeaf (readT S tx t) n a := by
  intro x hx
  unfold readT at hx
  split at hx
  · exact h x hx
  · rw [mem_addT] at hx
    rcases hx with ⟨h1, _⟩ | h1
    · exact h x h1
    · injection h1 with h2 h3
      exact hne h3.symm
theorem readT_new {S : List Lk} {x n a : Int} (hn : (⟨x, leafT n a⟩ : Lk) ∉ S) (ht : (⟨x, tableT n⟩ : Lk) ∉ S) : readT S x (leafT n a) = S ++ [⟨x, leafT n a⟩] := by
  unfold readT
  have hh : hasT S x (leafT n a) = false := by
    cases hh : hasT S x (leafT n a) with
    | false => rfl
    | true => exact absurd (has_leaf.1 hh).2 (fun h => h.elim hn ht)
  rw [hh, if_neg (by simp)]
  unfold addT
  congr 1
  rw [List.filter_eq_self]
  intro k hk
  by_cases hx : k.tx = x
  · cases hc : coversT (leafT n a) k.on with
    | false => simp
    | true =>
      rw [leaf_covers] at hc
      obtain ⟨ktx, kon⟩ := k
      simp only at hx hc
      subst hx; subst hc
      exact absurd hk hn
  · simp [hx]
theorem fold_new {n a : Int} : ∀ (zs : List Int) (S : List Lk), zs.Nodup → (∀ x ∈ zs, (⟨x, leafT n a⟩ : Lk) ∉ S ∧ (⟨x, tableT n⟩ : Lk) ∉ S) → zs.foldl (fun S x => readT S x (leafT n a)) S = S ++ zs.map fun x => (⟨x, leafT n a⟩ : Lk)
  | [], S, _, _ => by simp
  | x :: zs, S, hn, h => by
    have hx := h x (List.mem_cons_self ..)
    have hn2 := List.nodup_cons.1 hn
    rw [List.foldl_cons, readT_new hx.1 hx.2, fold_new zs _ hn2.2 fun y hy => ?_, List.map_cons, List.append_assoc]
    · rfl
    · have hy2 := h y (List.mem_cons_of_mem _ hy)
      have hne : y ≠ x := fun e => hn2.1 (e ▸ hy)
      constructor
      · rw [List.mem_append, List.mem_singleton]
        rintro (h1 | h1)
        · exact hy2.1 h1
        · injection h1 with h3; exact hne h3
      · rw [List.mem_append, List.mem_singleton]
        rintro (h1 | h1)
        · exact hy2.2 h1
        · injection h1 with h3; exact hne h3
theorem fold_back {n a b : Int} (h0 : 0 ≤ n ∧ 0 ≤ b) (hab : a ≠ b) : ∀ (zs : List Int) (S : List Lk), (∀ x ∈ zs, (⟨x, leafT n b⟩ : Lk) ∈ S) → mgT (leafT n a) (leafT n b) zs S = S.filter fun k => decide (∀ x ∈ zs, k ≠ ⟨x, leafT n a⟩)
  | [], S, _ => by
    rw [show mgT (leafT n a) (leafT n b) [] S = S from rfl, List.filter_eq_self.2]
    intro k _; simp
  | x :: zs, S, h => by
    have hx := h x (List.mem_cons_self ..)
    have hne : ∀ y : Int, (⟨y, leafT n b⟩ : Lk) ≠ ⟨x, leafT n a⟩ := fun y e => by
      injection e with h1 h2
      simp [leafT] at h2
      omega
    have hS : ∀ y ∈ x :: zs, (⟨y, leafT n b⟩ : Lk) ∈ S.filter fun k => !decide (k = (⟨x, leafT n a⟩ : Lk)) := fun y hy => List.mem_filter.2 ⟨h y hy, by simp [hne y]⟩
    have hst : mgStep (leafT n a) (leafT n b) S x = S.filter fun k => !decide (k = (⟨x, leafT n a⟩ : Lk)) := by
      unfold mgStep readT
      rw [if_pos (has_leaf.2 ⟨h0, .inl (hS x (List.mem_cons_self ..))⟩)]
    rw [show mgT (leafT n a) (leafT n b) (x :: zs) S = mgT (leafT n a) (leafT n b) zs (mgStep (leafT n a) (leafT n b) S x) from rfl, hst, fold_back h0 hab zs _ fun y hy => hS y (List.mem_cons_of_mem _ hy), List.filter_filter]
    apply List.filter_congr
    intro k _
    by_cases h1 : k = ⟨x, leafT n a⟩ <;> simp [h1]
/-- split and merged back -/
structure Undo (S S' : List Lk) (n leaf : Int) : Prop where
  both : ∀ zs, HoldL S' [leafT n 9] zs → HoldL S' [leafT n leaf] zs
  back : ∀ zs, Owns S' n 9 leaf zs → mgT (leafT n 9) (leafT n leaf) zs S' = S
  len : S'.length ≤ 2 * S.length
  tx : ∀ k ∈ S', ∃ k' ∈ S, k.tx = k'.tx
theorem undo_of {S S' : List Lk} {n leaf : Int} {zs : List Int} (hA : Anti S) (hN : NoLeaf S n 9) (hl : S.length ≤ 30) (h0 : 0 ≤ n ∧ 0 ≤ leaf ∧ leaf ≤ 3) (hO : Owns S n leaf 9 zs) (hsp : SpL 100 (leafT n 9) zs S S') : Undo S S' n leaf := by
  have hzl := owns_len hO
  have hz : ∀ x, x ∈ zs ↔ (⟨x, leafT n leaf⟩ : Lk) ∈ S := fun x => by
    rw [hO.mem x]
    exact ⟨fun h => h.2, fun h => ⟨⟨h0.1, h0.2.1, by omega, by omega⟩, h⟩⟩
  have e : S' = S ++ zs.map fun x => (⟨x, leafT n 9⟩ : Lk) := by
    rw [spl_room hsp (by omega), fold_new zs S hO.nodup fun x hx => ⟨hN x, fun h => ?_⟩]
    have := hA _ h _ ((hz x).1 hx) rfl (covers_leaf.2 (.inr rfl))
    injection this with h1 h2
    exact absurd h2 (by simp [tableT, leafT])
  have h9 : ∀ x, (⟨x, leafT n 9⟩ : Lk) ∈ S' ↔ x ∈ zs := fun x => by
    rw [e, List.mem_append, List.mem_map]
    constructor
    · rintro (h | ⟨y, hy, h⟩)
      · exact absurd h (hN x)
      · injection h with h1; rw [← h1]; exact hy
    · exact fun h => .inr ⟨x, h, rfl⟩
  have hfr : ∀ x, (⟨x, leafT n leaf⟩ : Lk) ∈ S' ↔ x ∈ zs := fun x => by
    rw [e, List.mem_append, List.mem_map, ← hz x]
    constructor
    · rintro (h | ⟨y, hy, h⟩)
      · exact h
      · injection h with h1 h2
        simp [leafT] at h2
        omega
    · exact .inl
  have hm9 : mayT (leafT n 9) = true := by simp [mayT, leafT, h0]
  have hmf : mayT (leafT n leaf) = true := by simp [mayT, leafT, h0]
  have hh : ∀ x, (∃ k ∈ S', k.tx = x ∧ hits k [leafT n 9] = true) ↔ (∃ k ∈ S', k.tx = x ∧ hits k [leafT n leaf] = true) := fun x => by
    have key : ∀ a, mayT (leafT n a) = true → ((∃ k ∈ S', k.tx = x ∧ hits k [leafT n a] = true) ↔ (⟨x, leafT n a⟩ : Lk) ∈ S' ∨ (⟨x, tableT n⟩ : Lk) ∈ S') := fun a ha => by
      have hk : ∀ k, hits k [leafT n a] = coversT k.on (leafT n a) := fun k => by simp [hits, hitT, ha]
      simp only [hk, covers_leaf]
      constructor
      · rintro ⟨⟨ktx, kon⟩, h1, rfl, h2 | h2⟩
        · simp only at h2; subst h2; exact .inl h1
        · simp only at h2; subst h2; exact .inr h1
      · rintro (h | h)
        · exact ⟨_, h, rfl, .inl rfl⟩
        · exact ⟨_, h, rfl, .inr rfl⟩
    rw [key 9 hm9, key leaf hmf, h9 x, hfr x]
  refine ⟨fun ws hw => ⟨hw.nodup, hw.sorted, fun x => by rw [hw.mem x, hh x]⟩, fun ws hw => ?_, ?_, ?_⟩
  · have hws : ∀ x, x ∈ ws ↔ x ∈ zs := fun x => by
      rw [hw.mem x, h9 x]
      exact ⟨fun h => h.2, fun h => ⟨⟨h0.1, by omega, h0.2.1, by omega⟩, h⟩⟩
    rw [fold_back ⟨h0.1, h0.2.1⟩ (by omega) ws S' fun x hx => (hfr x).2 ((hws x).1 hx), e, List.filter_append]
    have e1 : (S.filter fun k => decide (∀ x ∈ ws, k ≠ ⟨x, leafT n 9⟩)) = S := List.filter_eq_self.2 fun k hk => by
      simp only [decide_eq_true_eq]
      intro x _ h
      rw [h] at hk
      exact hN x hk
    have e2 : ((zs.map fun x => (⟨x, leafT n 9⟩ : Lk)).filter fun k => decide (∀ x ∈ ws, k ≠ ⟨x, leafT n 9⟩)) = [] := List.filter_eq_nil_iff.2 fun k hk => by
      obtain ⟨x, hx, rfl⟩ := List.mem_map.1 hk
      simp only [decide_eq_true_eq]
      exact fun h => h x ((hws x).2 hx) rfl
    rw [e1, e2, List.append_nil]
  · rw [e, List.length_append, List.length_map]; omega
  · intro k hk
    rw [e] at hk
    rcases List.mem_append.1 hk with h | h
    · exact ⟨k, h, rfl⟩
    · obtain ⟨x, hx, rfl⟩ := List.mem_map.1 h
      exact ⟨_, (hz x).1 hx, rfl⟩
end Go.Proofs.Ytbpioemenmahaaa
