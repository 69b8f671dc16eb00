/- Locks: the map and the reference's list tell the same; in plain words. -/
import Derived.Test.YtbpioemenmahaaaF5
set_option linter.unusedVariables false
set_option linter.unusedSimpArgs false
set_option linter.unnecessarySimpa false
namespace Go.Proofs.Ytbpioemenmahaaa
open Go.Sym

/-- the map's edges and the reference's answer alike -/
structure InvW (ws rs : List (Int × Int)) : Prop where
  nr : (rs.map (·.1)).Nodup
  eq : ∀ x, onW ws x = onW rs x
  pw : ∀ p ∈ ws, 1 ≤ p.2
  pr : ∀ p ∈ rs, 1 ≤ p.2
  ac : AcW ws
theorem itW_congr {ws rs : List (Int × Int)} (h : ∀ x, onW ws x = onW rs x) : ∀ (n : Nat) (x : Int), itW ws n x = itW rs n x
  | 0, _ => rfl
  | n + 1, x => by
    show itW ws n (onW ws x) = itW rs n (onW rs x)
    rw [h x, itW_congr h n]
theorem ac_congr {ws rs : List (Int × Int)} (h : ∀ x, onW ws x = onW rs x) (hA : AcW ws) : AcW rs := ⟨fun x => by
  obtain ⟨n, hn⟩ := hA.1 x
  exact ⟨n, by rw [← itW_congr h]; exact hn⟩, by rw [← h 0]; exact hA.2⟩
theorem ac_sub {ws ws' : List (Int × Int)} (h : ∀ x, onW ws' x = 0 ∨ onW ws' x = onW ws x) (hA : AcW ws) : AcW ws' := by
  have key : ∀ n y, itW ws n y = 0 → ∃ m, itW ws' m y = 0 := fun n => by
    induction n with
    | zero => intro y hy; exact ⟨0, hy⟩
    | succ n ih =>
      intro y hy
      rcases h y with e | e
      · exact ⟨1, e⟩
      · obtain ⟨m, hm⟩ := ih (onW ws y) hy
        refine ⟨m + 1, ?_⟩
        show itW ws' m (onW ws' y) = 0
        rw [e]; exact hm
  refine ⟨fun x => ?_, ?_⟩
  · obtain ⟨n, hn⟩ := hA.1 x
    exact key n x hn
  · rcases h 0 with e | e
    · exact e
    · rw [e]; exact hA.2
theorem ac_len {rs : List (Int × Int)} (hA : AcW rs) {j : Nat} {x : Int} (h : itW rs j x ≠ 0) : j ≤ rs.length := by
  have hnz : ∀ i, i ≤ j → itW rs i x ≠ 0 := fun i hi e => by
    apply h
    rw [show j = i + (j - i) by omega, itW_add, e, itW_zero hA.2]
  have hnd : ((List.range j).map fun i => itW rs i x).Nodup := by
    refine List.pairwise_map.2 (List.nodup_range.imp_of_mem fun {a b} ha hb hab e => ?_)
    have ha := List.mem_range.1 ha
    have hb := List.mem_range.1 hb
    rcases Nat.lt_or_gt_of_ne hab with h | h
    · exact hnz a (by omega) (ac_inj hA h e)
    · exact hnz b (by omega) (ac_inj hA h e.symm)
  have := nodup_len _ (rs.map (·.1)) hnd fun y hy => by
    obtain ⟨i, hi, rfl⟩ := List.mem_map.1 hy
    have hi := List.mem_range.1 hi
    obtain ⟨o, ho, _⟩ := hasW_of_onW (ws := rs) (x := itW rs i x) (by rw [← itW_succ]; exact hnz (i + 1) (by omega))
    exact List.mem_map.2 ⟨_, ho, rfl⟩
  simpa using this
theorem inv_nil : InvW [] [] := ⟨by simp, fun _ => rfl, fun p h => absurd h (by simp), fun p h => absurd h (by simp), ac_nil⟩
theorem sub_keys {rs rs' : List (Int × Int)} (h : rs'.Sublist rs) (hn : (rs.map (·.1)).Nodup) : (rs'.map (·.1)).Nodup := (h.map _).nodup hn
theorem inv_done {ws rs : List (Int × Int)} (h : InvW ws rs) (hn : (ws.map (·.1)).Nodup) (t : Int) : InvW (delW ws t) (delW rs t) := ⟨sub_keys List.filter_sublist h.nr, fun x => by
  rw [onW_del _ _ _ hn, onW_del _ _ _ h.nr, h.eq x], fun p hp => h.pw p (List.mem_filter.1 hp).1, fun p hp => h.pr p (List.mem_filter.1 hp).1, ac_sub (fun x => by
  rw [onW_del _ _ _ hn]
  by_cases e : t = x <;> simp [e]) h.ac⟩
theorem inv_end {ws rs : List (Int × Int)} (h : InvW ws rs) (hn : (ws.map (·.1)).Nodup) (o : Int) : InvW (endW ws o) (endW rs o) := ⟨sub_keys List.filter_sublist h.nr, fun x => by
  rw [onW_end _ _ _ hn, onW_end _ _ _ h.nr, h.eq x], fun p hp => h.pw p (List.mem_filter.1 hp).1, fun p hp => h.pr p (List.mem_filter.1 hp).1, ac_sub (fun x => by
  rw [onW_end _ _ _ hn]
  by_cases e : onW ws x = o <;> simp [e]) h.ac⟩
theorem mem_setW {ws : List (Int × Int)} {t o : Int} {p : Int × Int} (h : p ∈ setW ws t o) : p ∈ ws ∨ p.2 = o := by
  unfold setW at h
  split at h
  · obtain ⟨q, hq, rfl⟩ := List.mem_map.1 h
    split
    · exact .inr rfl
    · exact .inl hq
  · rcases List.mem_append.1 h with h | h
    · exact .inl h
    · rw [List.mem_singleton.1 h]; exact .inr rfl
theorem onW_snoc (rs : List (Int × Int)) (t o x : Int) (hn : (rs.map (·.1)).Nodup) : onW (delW rs t ++ [(t, o)]) x = if t = x then o else onW rs x := by
  unfold onW
  rw [onO_append]
  have h1 : onO (delW rs t) x = if t = x then none else onO rs x := by
    unfold delW
    rw [onO_filter _ _ hn]
    cases onO rs x with
    | none => simp
    | some v =>
      by_cases h : t = x
      · subst h; simp
      · have : ¬ x = t := fun e => h e.symm
        simp [h, this]
  rw [h1]
  by_cases h : t = x
  · subst h; simp [onO]
  · simp only [h, if_false]
    cases onO rs x with
    | none => simp [onO, h]
    | some v => rfl
theorem inv_set {ws rs : List (Int × Int)} (h : InvW ws rs) {tx on : Int} (h1 : 1 ≤ tx) (h2 : 1 ≤ on) (hno : ∀ j, itW ws j on ≠ tx) : InvW (setW ws tx on) (delW rs tx ++ [(tx, on)]) := ⟨by
  rw [List.map_append, List.nodup_append]
  refine ⟨sub_keys List.filter_sublist h.nr, by simp, fun a ha b hb e => ?_⟩
  simp at hb
  subst hb
  subst e
  obtain ⟨p, hp, e⟩ := List.mem_map.1 ha
  have := (List.mem_filter.1 hp).2
  simp [e] at this, fun x => by rw [onW_set, onW_snoc _ _ _ _ h.nr, h.eq x], fun p hp => by
  rcases mem_setW hp with hp | hp
  · exact h.pw p hp
  · omega, fun p hp => by
  rcases List.mem_append.1 hp with hp | hp
  · exact h.pr p (List.mem_filter.1 hp).1
  · rw [List.mem_singleton.1 hp]; exact h2, ac_set h.ac h1 hno⟩
/-- those that wait are the same in both -/
theorem inv_who {ws rs : List (Int × Int)} (h : InvW ws rs) (hn : (ws.map (·.1)).Nodup) (o : Int) : (whoW ws o).Perm (whoW rs o) := by
  refine (List.perm_ext_iff_of_nodup (whoW_nodup o hn) (whoW_nodup o h.nr)).2 fun x => ?_
  rw [mem_whoW, mem_whoW]
  constructor
  · intro hx
    have h1 := onW_of_mem hn hx
    have h2 := h.pw _ hx
    obtain ⟨v, hv, he⟩ := hasW_of_onW (ws := rs) (x := x) (by rw [← h.eq, h1]; simp only at h2; omega)
    rw [he, ← h.eq, h1] at hv
    exact hv
  · intro hx
    have h1 := onW_of_mem h.nr hx
    have h2 := h.pr _ hx
    obtain ⟨v, hv, he⟩ := hasW_of_onW (ws := ws) (x := x) (by rw [h.eq, h1]; simp only at h2; omega)
    rw [he, h.eq, h1] at hv
    exact hv
theorem sorted_same {ys zs : List Int} (hy : ys.Pairwise (· ≤ ·)) (hz : zs.Pairwise (· ≤ ·)) (hp : ys.Perm zs) : ys = zs := List.Perm.eq_of_pairwise (fun a b _ _ h1 h2 => Int.le_antisymm h1 h2) hy hz hp
theorem delW_le (l : List (Int × Int)) (t : Int) : (delW l t).length ≤ l.length := List.length_filter_le _ _
theorem endW_le (l : List (Int × Int)) (t : Int) : (endW l t).length ≤ l.length := List.length_filter_le _ _
end Go.Proofs.Ytbpioemenmahaaa
