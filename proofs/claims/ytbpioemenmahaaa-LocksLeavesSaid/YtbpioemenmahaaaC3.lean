/- Locks: the examples of the chapter, in plain words. -/
import Derived.Test.YtbpioemenmahaaaB5
set_option linter.unusedVariables false
set_option linter.unusedSimpArgs false
set_option linter.unnecessarySimpa false
namespace Go.Proofs.Ytbpioemenmahaaa
open Go.Sym

def rowT (t p s : Int) : Tgt := ⟨1, t, p, s⟩
theorem cnt_mem {to : Lk → Option Lk} {S : List Lk} {g : Lk} (h : 2 ≤ cnt to S g) : g ∈ S.filterMap to := by
  unfold cnt at h
  have hne : (S.filter fun k => decide (to k = some g)) ≠ [] := fun e => by rw [e] at h; simp at h
  obtain ⟨k, hk⟩ := List.exists_mem_of_ne_nil _ hne
  obtain ⟨h1, h2⟩ := List.mem_filter.1 hk
  exact List.mem_filterMap.2 ⟨k, h1, by simpa using h2⟩
theorem co_done {most : Int} {S S' : List Lk} {ok : Bool} (h : ¬ ((S.length : Int) > max most 1)) (hc : Co most S S' ok) : S' = S ∧ ok = true := by
  cases hc with
  | done _ => exact ⟨rfl, rfl⟩
  | page h1 _ _ => exact absurd h1 h
  | table h1 _ _ _ => exact absurd h1 h
  | fail h1 _ _ => exact absurd h1 h
theorem co_page {most : Int} {S S' : List Lk} {ok : Bool} {g : Lk} (h : (S.length : Int) > max most 1) (h2 : 2 ≤ cnt toPage S g) (hu : ∀ x ∈ S.filterMap toPage, 2 ≤ cnt toPage S x → x = g) (hc : Co most S S' ok) : Co most (addT S g.tx g.on) S' ok := by
  cases hc with
  | done h1 => exact absurd h h1
  | page _ hb hc =>
    have := hu _ (cnt_mem hb.1) hb.1
    subst this
    exact hc
  | table _ hn _ _ => exact absurd h2 (Nat.not_le.2 (hn g))
  | fail _ hn _ => exact absurd h2 (Nat.not_le.2 (hn g))
theorem co_table {most : Int} {S S' : List Lk} {ok : Bool} {g : Lk} (h : (S.length : Int) > max most 1) (hp : ∀ x ∈ S.filterMap toPage, ¬ 2 ≤ cnt toPage S x) (h2 : 2 ≤ cnt toTable S g) (hu : ∀ x ∈ S.filterMap toTable, 2 ≤ cnt toTable S x → x = g) (hc : Co most S S' ok) : Co most (addT S g.tx g.on) S' ok := by
  cases hc with
  | done h1 => exact absurd h h1
  | page _ hb hc => exact absurd hb.1 (hp _ (cnt_mem hb.1))
  | table _ _ hb hc =>
    have := hu _ (cnt_mem hb.1) hb.1
    subst this
    exact hc
  | fail _ _ hn => exact absurd h2 (Nat.not_le.2 (hn g))
theorem co_fail {most : Int} {S S' : List Lk} {ok : Bool} (h : (S.length : Int) > max most 1) (hp : ∀ x ∈ S.filterMap toPage, ¬ 2 ≤ cnt toPage S x) (ht : ∀ x ∈ S.filterMap toTable, ¬ 2 ≤ cnt toTable S x) (hc : Co most S S' ok) : ok = false := by
  cases hc with
  | done h1 => exact absurd h h1
  | page _ hb _ => exact absurd hb.1 (hp _ (cnt_mem hb.1))
  | table _ _ hb _ => exact absurd hb.1 (ht _ (cnt_mem hb.1))
  | fail _ _ _ => rfl
/-- a lock is read that was not held -/
theorem readR_new {most : Int} {S S' : List Lk} {tx r : Int} {t : Tgt} (h1 : 1 ≤ tx) (hm : mayT t = true) (hn : hasT S tx t = false) (h : ReadR most S tx t r S') :
    (Co most (addT S tx t) S' true ∧ r = 0) ∨ (∃ S2, Co most (addT S tx t) S2 false ∧ r = 45 ∧ S' = S) := by
  rcases h with ⟨h, _⟩ | ⟨_, h, _⟩ | ⟨_, _, h⟩
  · exact absurd ⟨h1, hm⟩ h
  · rw [hn] at h; cases h
  · exact h
theorem readR_done {most : Int} {S S' : List Lk} {tx r : Int} {t : Tgt} (h1 : 1 ≤ tx) (hm : mayT t = true) (hn : hasT S tx t = false) (hl : ¬ (((addT S tx t).length : Int) > max most 1)) (h : ReadR most S tx t r S') : r = 0 ∧ S' = addT S tx t := by
  rcases readR_new h1 hm hn h with ⟨hc, hr⟩ | ⟨S2, hc, _⟩
  · exact ⟨hr, (co_done hl hc).1⟩
  · cases (co_done hl hc).2
theorem read1 {r : Int} {S' : List Lk} (h : ReadR 2 [] 1 (rowT 0 0 1) r S') : r = 0 ∧ S' = [⟨1, rowT 0 0 1⟩] := readR_done (by decide) (by decide) (by decide) (by decide) h
theorem read2 {r : Int} {S' : List Lk} (h : ReadR 2 [⟨1, rowT 0 0 1⟩] 1 (rowT 0 0 2) r S') : r = 0 ∧ S' = [⟨1, rowT 0 0 1⟩, ⟨1, rowT 0 0 2⟩] := readR_done (by decide) (by decide) (by decide) (by decide) h
theorem read3 {r : Int} {S' : List Lk} (h : ReadR 2 [⟨1, rowT 0 0 1⟩, ⟨1, rowT 0 0 2⟩] 1 (rowT 0 3 1) r S') : r = 0 ∧ S' = [⟨1, rowT 0 3 1⟩, ⟨1, pageT 0 0⟩] := by
  have key : ∀ S2 ok, Co 2 (addT [⟨1, rowT 0 0 1⟩, ⟨1, rowT 0 0 2⟩] 1 (rowT 0 3 1)) S2 ok → S2 = [⟨1, rowT 0 3 1⟩, ⟨1, pageT 0 0⟩] ∧ ok = true := fun S2 ok hc => by
    have h1 := co_page (g := ⟨1, pageT 0 0⟩) (by decide) (by decide) (by decide) hc
    exact co_done (S := [⟨1, rowT 0 3 1⟩, ⟨1, pageT 0 0⟩]) (by decide) h1
  rcases readR_new (by decide) (by decide) (by decide) h with ⟨hc, hr⟩ | ⟨S2, hc, _⟩
  · exact ⟨hr, (key _ _ hc).1⟩
  · cases (key _ _ hc).2
theorem read4 {r : Int} {S' : List Lk} (h : ReadR 2 [⟨1, rowT 0 3 1⟩, ⟨1, pageT 0 0⟩] 2 (rowT 0 0 1) r S') : r = 0 ∧ S' = [⟨2, rowT 0 0 1⟩, ⟨1, tableT 0⟩] := by
  have key : ∀ S2 ok, Co 2 (addT [⟨1, rowT 0 3 1⟩, ⟨1, pageT 0 0⟩] 2 (rowT 0 0 1)) S2 ok → S2 = [⟨2, rowT 0 0 1⟩, ⟨1, tableT 0⟩] ∧ ok = true := fun S2 ok hc => by
    have h1 := co_table (g := ⟨1, tableT 0⟩) (by decide) (by decide) (by decide) (by decide) hc
    exact co_done (S := [⟨2, rowT 0 0 1⟩, ⟨1, tableT 0⟩]) (by decide) h1
  rcases readR_new (by decide) (by decide) (by decide) h with ⟨hc, hr⟩ | ⟨S2, hc, _⟩
  · exact ⟨hr, (key _ _ hc).1⟩
  · cases (key _ _ hc).2
theorem read5 {r : Int} {S' : List Lk} (h : ReadR 2 [⟨2, rowT 0 0 1⟩, ⟨1, tableT 0⟩] 3 (tableT 1) r S') : r = 45 ∧ S' = [⟨2, rowT 0 0 1⟩, ⟨1, tableT 0⟩] := by
  have key : ∀ S2 ok, Co 2 (addT [⟨2, rowT 0 0 1⟩, ⟨1, tableT 0⟩] 3 (tableT 1)) S2 ok → ok = false := fun S2 ok hc => co_fail (by decide) (by decide) (by decide) hc
  rcases readR_new (by decide) (by decide) (by decide) h with ⟨hc, hr⟩ | ⟨S2, hc, hr, hs⟩
  · cases key _ _ hc
  · exact ⟨hr, hs⟩
end Go.Proofs.Ytbpioemenmahaaa
