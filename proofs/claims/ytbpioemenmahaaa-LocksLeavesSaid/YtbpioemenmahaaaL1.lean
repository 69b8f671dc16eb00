/- Locks: LocksLeaves in plain words: what Split and Merge do to those that hold a leaf; a hundred locks are enough for forty calls. -/
import Derived.Test.YtbpioemenmahaaaJ1
set_option linter.unusedVariables false
set_option linter.unusedSimpArgs false
set_option linter.unnecessarySimpa false
namespace Go.Proofs.Ytbpioemenmahaaa
open Go.Sym

theorem bool_ext {a b : Bool} (h : a = true ↔ b = true) : a = b := by
  cases a <;> cases b <;> simp_all
theorem split_has {S : List Lk} {n fr to : Int} {zs : List Int} (hO : Owns S n fr to zs) (h0 : 0 ≤ n ∧ 0 ≤ fr ∧ 0 ≤ to) (hne : fr ≠ to) (x : Int) :
    hasT (zs.foldl (fun S x => readT S x (leafT n to)) S) x (leafT n to) = (hasT S x (leafT n fr) || hasT S x (leafT n to)) ∧
    hasT (zs.foldl (fun S x => readT S x (leafT n to)) S) x (leafT n fr) = hasT S x (leafT n fr) := by
  have hz : x ∈ zs ↔ (⟨x, leafT n fr⟩ : Lk) ∈ S := by
    rw [hO.mem x]
    exact ⟨fun h => h.2, fun h => ⟨⟨h0.1, h0.2.1, h0.2.2, hne⟩, h⟩⟩
  have hl : ∀ a : Int, (∃ y ∈ zs, (⟨x, leafT n a⟩ : Lk) = ⟨y, leafT n to⟩ ∧ (⟨y, tableT n⟩ : Lk) ∉ S) ↔ (a = to ∧ x ∈ zs ∧ (⟨x, tableT n⟩ : Lk) ∉ S) := fun a => by
    constructor
    · rintro ⟨y, hy, e, h⟩
      injection e with e1 e2
      subst e1
      exact ⟨by simpa [leafT] using e2, hy, h⟩
    · rintro ⟨rfl, h1, h2⟩
      exact ⟨x, h1, rfl, h2⟩
  have ht : ¬ ∃ y ∈ zs, (⟨x, tableT n⟩ : Lk) = ⟨y, leafT n to⟩ ∧ (⟨y, tableT n⟩ : Lk) ∉ S := by
    rintro ⟨y, _, e, _⟩
    injection e with _ e2
    simp [leafT, tableT] at e2
  have key : ∀ a : Int, 0 ≤ a → (hasT (zs.foldl (fun S x => readT S x (leafT n to)) S) x (leafT n a) = true ↔ (⟨x, leafT n a⟩ : Lk) ∈ S ∨ (a = to ∧ x ∈ zs) ∨ (⟨x, tableT n⟩ : Lk) ∈ S) := fun a ha => by
    rw [has_leaf, spl_mem ⟨h0.1, h0.2.2⟩, spl_mem ⟨h0.1, h0.2.2⟩, hl a]
    simp only [ht, or_false]
    constructor
    · rintro ⟨_, (h | ⟨h1, h2, _⟩) | h⟩
      · exact .inl h
      · exact .inr (.inl ⟨h1, h2⟩)
      · exact .inr (.inr h)
    · intro h
      refine ⟨⟨h0.1, ha⟩, ?_⟩
      by_cases hT : (⟨x, tableT n⟩ : Lk) ∈ S
      · exact .inr hT
      · rcases h with h | ⟨h1, h2⟩ | h
        · exact .inl (.inl h)
        · exact .inl (.inr ⟨h1, h2, hT⟩)
        · exact .inr h
  have keyS : ∀ a : Int, 0 ≤ a → (hasT S x (leafT n a) = true ↔ (⟨x, leafT n a⟩ : Lk) ∈ S ∨ (⟨x, tableT n⟩ : Lk) ∈ S) := fun a ha => by
    rw [has_leaf]; exact ⟨fun h => h.2, fun h => ⟨⟨h0.1, ha⟩, h⟩⟩
  constructor
  · apply bool_ext
    rw [key to h0.2.2, Bool.or_eq_true, keyS fr h0.2.1, keyS to h0.2.2, hz]
    constructor
    · rintro (h | ⟨_, h⟩ | h)
      · exact .inr (.inl h)
      · exact .inl (.inl h)
      · exact .inl (.inr h)
    · rintro ((h | h) | (h | h))
      · exact .inr (.inl ⟨rfl, h⟩)
      · exact .inr (.inr h)
      · exact .inl h
      · exact .inr (.inr h)
  · apply bool_ext
    rw [key fr h0.2.1, keyS fr h0.2.1]
    constructor
    · rintro (h | ⟨h, _⟩ | h)
      · exact .inl h
      · exact absurd h hne
      · exact .inr h
    · rintro (h | h)
      · exact .inl h
      · exact .inr (.inr h)
theorem merge_has {S : List Lk} {n fr to : Int} {zs : List Int} (hO : Owns S n fr to zs) (h0 : 0 ≤ n ∧ 0 ≤ fr ∧ 0 ≤ to) (hne : fr ≠ to) (x : Int) :
    hasT (mgT (leafT n fr) (leafT n to) zs S) x (leafT n to) = (hasT S x (leafT n fr) || hasT S x (leafT n to)) ∧
    hasT (mgT (leafT n fr) (leafT n to) zs S) x (leafT n fr) = hasT S x (tableT n) := by
  have hz : x ∈ zs ↔ (⟨x, leafT n fr⟩ : Lk) ∈ S := by
    rw [hO.mem x]
    exact ⟨fun h => h.2, fun h => ⟨⟨h0.1, h0.2.1, h0.2.2, hne⟩, h⟩⟩
  have hm := fun k => mg_mem (S := S) (zs := zs) ⟨h0.1, h0.2.2⟩ hne k
  have hT : (⟨x, tableT n⟩ : Lk) ∈ mgT (leafT n fr) (leafT n to) zs S ↔ (⟨x, tableT n⟩ : Lk) ∈ S := by
    rw [hm]
    constructor
    · rintro (⟨h, _⟩ | ⟨y, _, e, _⟩)
      · exact h
      · injection e with _ e2; simp [leafT, tableT] at e2
    · refine fun h => .inl ⟨h, fun y _ e => ?_⟩
      injection e with _ e2; simp [leafT, tableT] at e2
  have hTo : (⟨x, leafT n to⟩ : Lk) ∈ mgT (leafT n fr) (leafT n to) zs S ↔ (⟨x, leafT n to⟩ : Lk) ∈ S ∨ (x ∈ zs ∧ (⟨x, tableT n⟩ : Lk) ∉ S) := by
    rw [hm]
    constructor
    · rintro (⟨h, _⟩ | ⟨y, hy, e, h⟩)
      · exact .inl h
      · injection e with e1; subst e1; exact .inr ⟨hy, h⟩
    · rintro (h | ⟨h1, h2⟩)
      · refine .inl ⟨h, fun y _ e => ?_⟩
        injection e with _ e2
        simp [leafT] at e2
        omega
      · exact .inr ⟨x, h1, rfl, h2⟩
  have hFr : (⟨x, leafT n fr⟩ : Lk) ∉ mgT (leafT n fr) (leafT n to) zs S := fun h => by
    rw [hm] at h
    rcases h with ⟨h1, h2⟩ | ⟨y, _, e, _⟩
    · exact h2 x (hz.2 h1) rfl
    · injection e with _ e2
      simp [leafT] at e2
      omega
  constructor
  · apply bool_ext
    rw [has_leaf, Bool.or_eq_true, has_leaf, has_leaf, hT, hTo, hz]
    constructor
    · rintro ⟨_, (h | ⟨h, _⟩) | h⟩
      · exact .inr ⟨⟨h0.1, h0.2.2⟩, .inl h⟩
      · exact .inl ⟨⟨h0.1, h0.2.1⟩, .inl h⟩
      · exact .inl ⟨⟨h0.1, h0.2.1⟩, .inr h⟩
    · intro h
      refine ⟨⟨h0.1, h0.2.2⟩, ?_⟩
      by_cases ht : (⟨x, tableT n⟩ : Lk) ∈ S
      · exact .inr ht
      · rcases h with ⟨_, h | h⟩ | ⟨_, h | h⟩
        · exact .inl (.inr ⟨h, ht⟩)
        · exact .inr h
        · exact .inl (.inl h)
        · exact .inr h
  · apply bool_ext
    rw [has_leaf, has_table, hT]
    constructor
    · rintro ⟨_, h | h⟩
      · exact absurd h hFr
      · exact ⟨h0.1, h⟩
    · rintro ⟨_, h⟩
      exact ⟨⟨h0.1, h0.2.1⟩, .inr h⟩
/-! ### a hundred locks are enough -/
/-- the locks after some calls: leaves come from the pairs in cls, the others from r2 reads; m locks at most -/
structure LI (S : List Lk) (cls : List (Int × Int)) (r2 m : Nat) : Prop where
  leaf : ∀ k ∈ S, k.on.kind = 3 → (k.tx, k.on.table) ∈ cls ∧ k.on.slot = -1 ∧ 0 ≤ k.on.page ∧ k.on.page ≤ 7
  who : ∀ k ∈ S, 1 ≤ k.tx ∧ k.tx ≤ 5 ∧ 0 ≤ k.on.table ∧ k.on.table ≤ 1
  non : (S.filter fun k => !decide (k.on.kind = 3)).length ≤ r2
  len : S.length ≤ m
theorem LI.filter {S : List Lk} {cls : List (Int × Int)} {r2 m : Nat} (h : LI S cls r2 m) (p : Lk → Bool) : LI (S.filter p) cls r2 m := by
  refine ⟨fun k hk => h.leaf k (List.mem_filter.1 hk).1, fun k hk => h.who k (List.mem_filter.1 hk).1, ?_, Nat.le_trans (List.length_filter_le _ _) h.len⟩
  rw [List.filter_filter]
  refine Nat.le_trans ?_ h.non
  rw [← List.countP_eq_length_filter, ← List.countP_eq_length_filter]
  exact List.countP_mono_left fun k _ hk => by simp at hk ⊢; exact hk.1
theorem LI.add {S : List Lk} {cls : List (Int × Int)} {r2 m : Nat} (h : LI S cls r2 m) {tx : Int} {t : Tgt} (hx : 1 ≤ tx ∧ tx ≤ 5 ∧ 0 ≤ t.table ∧ t.table ≤ 1) {cls' : List (Int × Int)} {r2' : Nat} (hc : ∀ c ∈ cls, c ∈ cls')
    (hl : t.kind = 3 → ((tx, t.table) ∈ cls' ∧ t.slot = -1 ∧ 0 ≤ t.page ∧ t.page ≤ 7) ∧ r2 ≤ r2') (hr : t.kind ≠ 3 → r2 + 1 ≤ r2') : LI (readT S tx t) cls' r2' (m + 1) := by
  have hr2 : r2 ≤ r2' := by
    by_cases h3 : t.kind = 3
    · exact (hl h3).2
    · have := hr h3; omega
  have h1 : LI S cls' r2' (m + 1) := ⟨fun k hk h3 => ⟨hc _ (h.leaf k hk h3).1, (h.leaf k hk h3).2⟩, h.who, Nat.le_trans h.non hr2, Nat.le_succ_of_le h.len⟩
  unfold readT
  split
  · exact h1
  · unfold addT
    have h2 := h.filter fun k => !(decide (k.tx = tx) && coversT t k.on)
    generalize (S.filter fun k => !(decide (k.tx = tx) && coversT t k.on)) = S2 at h2
    refine ⟨fun k hk h3 => ?_, fun k hk => ?_, ?_, ?_⟩
    · rcases List.mem_append.1 hk with hk | hk
      · exact ⟨hc _ (h2.leaf k hk h3).1, (h2.leaf k hk h3).2⟩
      · rw [List.mem_singleton.1 hk] at h3 ⊢
        exact (hl h3).1
    · rcases List.mem_append.1 hk with hk | hk
      · exact h2.who k hk
      · rw [List.mem_singleton.1 hk]; exact hx
    · rw [List.filter_append, List.length_append]
      have := h2.non
      by_cases h3 : t.kind = 3
      · simp [h3]; omega
      · have := hr h3
        simp [h3]; omega
    · rw [List.length_append]
      have := h2.len
      simp
      omega
theorem LI.leaves {cls : List (Int × Int)} {n to : Int} {r2 : Nat} (hn : 0 ≤ n ∧ n ≤ 1) (ht : 0 ≤ to ∧ to ≤ 7) : ∀ (zs : List Int) (S : List Lk) (m : Nat), LI S cls r2 m → (∀ x ∈ zs, (x, n) ∈ cls ∧ 1 ≤ x ∧ x ≤ 5) → LI (zs.foldl (fun S x => readT S x (leafT n to)) S) cls r2 (m + zs.length)
  | [], S, m, h, _ => h
  | x :: zs, S, m, h, hz => by
    have hx := hz x (List.mem_cons_self ..)
    have h1 : LI (readT S x (leafT n to)) cls r2 (m + 1) := h.add ⟨hx.2.1, hx.2.2, hn.1, hn.2⟩ (fun c hc => hc) (fun _ => ⟨⟨hx.1, rfl, ht.1, ht.2⟩, Nat.le_refl _⟩) fun e => absurd rfl e
    have h2 := LI.leaves hn ht zs _ _ h1 fun y hy => hz y (List.mem_cons_of_mem _ hy)
    rw [List.foldl_cons, List.length_cons]
    rw [show m + (zs.length + 1) = m + 1 + zs.length by omega]
    exact h2
theorem LI.merged {cls : List (Int × Int)} {n fr to : Int} {r2 : Nat} (hn : 0 ≤ n ∧ n ≤ 1) (ht : 0 ≤ to ∧ to ≤ 7) : ∀ (zs : List Int) (S : List Lk) (m : Nat), LI S cls r2 m → (∀ x ∈ zs, (x, n) ∈ cls ∧ 1 ≤ x ∧ x ≤ 5) → LI (mgT (leafT n fr) (leafT n to) zs S) cls r2 (m + zs.length)
  | [], S, m, h, _ => h
  | x :: zs, S, m, h, hz => by
    have hx := hz x (List.mem_cons_self ..)
    have h1 : LI (mgStep (leafT n fr) (leafT n to) S x) cls r2 (m + 1) := (h.filter _).add ⟨hx.2.1, hx.2.2, hn.1, hn.2⟩ (fun c hc => hc) (fun _ => ⟨⟨hx.1, rfl, ht.1, ht.2⟩, Nat.le_refl _⟩) fun e => absurd rfl e
    have h2 := LI.merged (fr := fr) hn ht zs _ _ h1 fun y hy => hz y (List.mem_cons_of_mem _ hy)
    rw [List.length_cons, show m + (zs.length + 1) = m + 1 + zs.length by omega]
    exact h2
def pages : List Int := [0, 1, 2, 3, 4, 5, 6, 7]
theorem mem_pages {p : Int} (h : 0 ≤ p ∧ p ≤ 7) : p ∈ pages := by
  have : p = 0 ∨ p = 1 ∨ p = 2 ∨ p = 3 ∨ p = 4 ∨ p = 5 ∨ p = 6 ∨ p = 7 := by omega
  simp [pages]; exact this
def leavesOf (cls : List (Int × Int)) : List Lk := cls.flatMap fun c => pages.map fun p => ⟨c.1, leafT c.2 p⟩
theorem leavesOf_len (cls : List (Int × Int)) : (leavesOf cls).length = 8 * cls.length := by
  unfold leavesOf
  induction cls with
  | nil => rfl
  | cons c cls ih => rw [List.flatMap_cons, List.length_append, ih, List.length_cons]; simp [pages]; omega
theorem mem_leavesOf {cls : List (Int × Int)} {k : Lk} (h : k.on.kind = 3) (hs : k.on.slot = -1) (hp : 0 ≤ k.on.page ∧ k.on.page ≤ 7) (hc : (k.tx, k.on.table) ∈ cls) : k ∈ leavesOf cls := by
  obtain ⟨tx, ⟨kd, tb, pg, sl⟩⟩ := k
  simp only at h hs hp hc
  subst h; subst hs
  exact List.mem_flatMap.2 ⟨_, hc, List.mem_map.2 ⟨pg, mem_pages hp, rfl⟩⟩
def allCls : List (Int × Int) := [(1, 0), (1, 1), (2, 0), (2, 1), (3, 0), (3, 1), (4, 0), (4, 1), (5, 0), (5, 1)]
theorem mem_allCls {x n : Int} (h : 1 ≤ x ∧ x ≤ 5 ∧ 0 ≤ n ∧ n ≤ 1) : (x, n) ∈ allCls := by
  have h1 : x = 1 ∨ x = 2 ∨ x = 3 ∨ x = 4 ∨ x = 5 := by omega
  have h2 : n = 0 ∨ n = 1 := by omega
  rcases h1 with rfl | rfl | rfl | rfl | rfl <;> rcases h2 with rfl | rfl <;> simp [allCls]
theorem LI.room {S : List Lk} {cls : List (Int × Int)} {r1 r2 s m : Nat} (h : LI S cls r2 m) (hn : S.Nodup) (hc : cls.length ≤ r1) (hm : m ≤ r1 + r2 + 5 * s) (hi : r1 + r2 + s ≤ 39) : S.length ≤ 95 := by
  have h1 := split_len (fun k : Lk => decide (k.on.kind = 3)) S
  have hF : (S.filter fun k => decide (k.on.kind = 3)).Nodup := hn.filter _
  have h3 : (S.filter fun k => decide (k.on.kind = 3)).length ≤ 8 * cls.length := by
    rw [← leavesOf_len]
    refine nodup_len _ _ hF fun k hk => ?_
    obtain ⟨hk1, hk2⟩ := List.mem_filter.1 hk
    have hk3 : k.on.kind = 3 := by simpa using hk2
    have := h.leaf k hk1 hk3
    exact mem_leavesOf hk3 this.2.1 this.2.2 this.1
  have h4 : (S.filter fun k => decide (k.on.kind = 3)).length ≤ 80 := by
    have e : 80 = (leavesOf allCls).length := by rw [leavesOf_len]; rfl
    rw [e]
    refine nodup_len _ _ hF fun k hk => ?_
    obtain ⟨hk1, hk2⟩ := List.mem_filter.1 hk
    have hk3 : k.on.kind = 3 := by simpa using hk2
    have := h.leaf k hk1 hk3
    exact mem_leavesOf hk3 this.2.1 this.2.2 (mem_allCls (h.who k hk1))
  have h5 := h.non
  have h6 := h.len
  omega
end Go.Proofs.Ytbpioemenmahaaa
