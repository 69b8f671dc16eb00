/- Locks: the waits-for graph stays acyclic; at most eight steps lead out of eight transactions; in plain words. -/
import Derived.Test.YtbpioemenmahaaaC4
import Derived.Test.YtbpioemenmahaaaB5
set_option linter.unusedVariables false
set_option linter.unusedSimpArgs false
set_option linter.unnecessarySimpa false
namespace Go.Proofs.Ytbpioemenmahaaa
open Go.Sym

theorem itW_add (ws : List (Int × Int)) : ∀ (a b : Nat) (x : Int), itW ws (a + b) x = itW ws b (itW ws a x)
  | 0, b, x => by rw [Nat.zero_add]; rfl
  | a + 1, b, x => by
    rw [show a + 1 + b = (a + b) + 1 by omega]
    exact itW_add ws a b (onW ws x)
theorem itW_mul {ws : List (Int × Int)} {d : Nat} {y : Int} (h : itW ws d y = y) : ∀ k, itW ws (k * d) y = y
  | 0 => by rw [Nat.zero_mul]; rfl
  | k + 1 => by rw [Nat.succ_mul, itW_add, itW_mul h k, h]
theorem ac_inj {ws : List (Int × Int)} (hA : AcW ws) {a b : Nat} {x : Int} (hab : a < b) (h : itW ws a x = itW ws b x) : itW ws a x = 0 := by
  have hd : itW ws (b - a) (itW ws a x) = itW ws a x := by rw [← itW_add, show a + (b - a) = b by omega, h]
  obtain ⟨n, hn⟩ := hA.1 (itW ws a x)
  have h1 := itW_mul hd n
  have hle : n ≤ n * (b - a) := Nat.le_mul_of_pos_right _ (by omega)
  rw [show n * (b - a) = n + (n * (b - a) - n) by omega, itW_add, hn, itW_zero hA.2] at h1
  exact h1.symm
/-- those that wait have numbers from 1 to m -/
def KeysW (m : Int) (ws : List (Int × Int)) : Prop := ∀ y, onW ws y ≠ 0 → 1 ≤ y ∧ y ≤ m
theorem ac_nine {ws : List (Int × Int)} (hA : AcW ws) (hK : KeysW 8 ws) (x : Int) : itW ws 9 x = 0 := by
  refine Classical.byContradiction fun hne => ?_
  have hnz : ∀ j, j ≤ 9 → itW ws j x ≠ 0 := fun j hj e => by
    apply hne
    rw [show 9 = j + (9 - j) by omega, itW_add, e, itW_zero hA.2]
  have hkey : ∀ j, j < 9 → 1 ≤ itW ws j x ∧ itW ws j x ≤ 8 := fun j hj => hK _ (by rw [← itW_succ]; exact hnz (j + 1) (by omega))
  have hnd : ((List.range 9).map fun j => itW ws j x).Nodup := by
    refine List.pairwise_map.2 (List.nodup_range.imp_of_mem fun {a b} ha hb hab e => ?_)
    have ha := List.mem_range.1 ha
    have hb := List.mem_range.1 hb
    rcases Nat.lt_or_gt_of_ne hab with h | h
    · exact hnz a (by omega) (ac_inj hA h e)
    · exact hnz b (by omega) (ac_inj hA h e.symm)
  have := nodup_len _ [(1 : Int), 2, 3, 4, 5, 6, 7, 8] hnd fun y hy => by
    obtain ⟨j, hj, rfl⟩ := List.mem_map.1 hy
    have := hkey j (List.mem_range.1 hj)
    simp only [List.mem_cons, List.not_mem_nil, or_false]
    omega
  simp at this
/-- an edge laid that closes no cycle -/
theorem ac_set {ws : List (Int × Int)} (hA : AcW ws) {tx on : Int} (h1 : 1 ≤ tx) (hno : ∀ j, itW ws j on ≠ tx) : AcW (setW ws tx on) := by
  have hon : ∀ n y, (∀ j, itW ws j y ≠ tx) → itW (setW ws tx on) n y = itW ws n y := fun n => by
    induction n with
    | zero => intro y _; rfl
    | succ n ih =>
      intro y hy
      show itW (setW ws tx on) n (onW (setW ws tx on) y) = itW ws n (onW ws y)
      have hne : tx ≠ y := fun e => hy 0 e.symm
      rw [onW_set, if_neg hne]
      exact ih _ fun j => hy (j + 1)
  have hend : ∃ n, itW (setW ws tx on) n on = 0 := by
    obtain ⟨n, hn⟩ := hA.1 on
    exact ⟨n, by rw [hon n on hno, hn]⟩
  have key : ∀ n y, itW ws n y = 0 → ∃ m, itW (setW ws tx on) m y = 0 := fun n => by
    induction n with
    | zero => intro y hy; exact ⟨0, hy⟩
    | succ n ih =>
      intro y hy
      by_cases h : tx = y
      · obtain ⟨m, hm⟩ := hend
        refine ⟨m + 1, ?_⟩
        show itW (setW ws tx on) m (onW (setW ws tx on) y) = 0
        rw [onW_set, if_pos h, hm]
      · obtain ⟨m, hm⟩ := ih (onW ws y) hy
        refine ⟨m + 1, ?_⟩
        show itW (setW ws tx on) m (onW (setW ws tx on) y) = 0
        rw [onW_set, if_neg h, hm]
  refine ⟨fun x => ?_, ?_⟩
  · obtain ⟨n, hn⟩ := hA.1 x
    exact key n x hn
  · rw [onW_set, if_neg (by omega)]
    exact hA.2
theorem ac_nil : AcW [] := ⟨fun x => ⟨1, rfl⟩, rfl⟩
theorem keysW_set {m : Int} {ws : List (Int × Int)} (hK : KeysW m ws) {tx on : Int} (h1 : 1 ≤ tx) (h2 : tx ≤ m) : KeysW m (setW ws tx on) := fun y hy => by
  rw [onW_set] at hy
  by_cases h : tx = y
  · omega
  · rw [if_neg h] at hy
    exact hK y hy
end Go.Proofs.Ytbpioemenmahaaa
