/- Locks: Nums: two slices compared. Locks: waits: what On answers after a change; chains; in plain words. -/
import Derived.Test.YtbpioemenmahaaaQE
import Derived.Test.YtbpioemenmahaaaQB
set_option linter.unusedVariables false
set_option linter.unusedSimpArgs false
set_option linter.unnecessarySimpa false
namespace Go.Proofs.Ytbpioemenmahaaa
open Go.Sym

theorem getI {xs : List Int} {ja : List Value} {i : Nat} (h : i < xs.length) : (xs.map (Value.int .i64) ++ ja)[i]? = some (.int .i64 xs[i]) := by
  rw [List.getElem?_append_left (by simpa using h)]
  simp [h]
theorem take_eq {xs ys : List Int} {i : Nat} (ha : i < xs.length) (hb : i < ys.length) (h : xs.take i = ys.take i) (he : xs[i] = ys[i]) : xs.take (i + 1) = ys.take (i + 1) := by
  rw [List.take_add_one, List.take_add_one, h, List.getElem?_eq_getElem ha, List.getElem?_eq_getElem hb, he]
theorem nums_tri {xs ys : List Int} {ba ca bb cb : Nat} {ja jb : List Value} {Ta Tb : TypeId} (hS : xs.length < 1000000) : TriQ Try.prog 24 #[.slice (some ⟨ba, 0, none⟩) xs.length ca, .slice (some ⟨bb, 0, none⟩) ys.length cb] [(ba, .cells (xs.map (Value.int .i64) ++ ja).toArray Ta), (bb, .cells (ys.map (Value.int .i64) ++ jb).toArray Tb)] (.bool (decide (xs = ys))) := by
  have f_mixed := mixed; have f_by3 := by3; have f_ty3 := ty3; have f_ty49 := ty49; have f_un_49 : Und Try.prog 49 _ := ⟨Try.underlying49⟩; have f_zero3 := zero3; have f_zv3 := zv3
  refine tri_intro (args := [_, _]) Try.func24 rfl Try.ntmps24 rfl (rs := _) rfl rfl fun E R => ?_
  simp only [fr, List.cons_append, List.nil_append]
  (apply sc_seq; apply sc_region; (apply so_ex; (apply ex_assign; ((exact Ev.const))); exact rfl); apply so_nil; apply nm_then; (apply sc_seq); apply sc_seq; apply sc_region; (apply so_ex; (apply ex_move; (exact ev_)); exact rfl); (apply so_ex; (apply ex_len_slice; (exact ev_); assumption); exact rfl); (apply so_ex; (apply ex_move; (exact ev_)); exact rfl); (apply so_ex; (apply ex_len_slice; (exact ev_); assumption); exact rfl); (apply so_split; (apply ex_neq; (exact ev_); (exact ev_)); exact rfl; refine ⟨fun _ => ?_, fun _ => ?_⟩); apply so_nil; apply nm_then; (apply sc_cond_true; (exact ev_)); apply sc_seq; apply sc_region; (apply so_ex; (apply ex_assign; ((exact Ev.const))); exact rfl); apply so_nil; apply nm_then; (apply sc_ret); (apply rt_then))
  · rename_i hne
    have hx : (Value.bool (decide (xs = ys))) = .bool false := by
      have : xs ≠ ys := fun e => hne (by rw [e])
      simp [this]
    rw [hx]
    ((apply ret_ok; (focus ((apply Res.tmp; (exact ev_)); exact Res.nil)); (exact ⟨rfl, rfl⟩); (exact sel_); (exact appb_)))
  · rename_i he
    have hl : xs.length = ys.length := by omega
    (apply so_nil; apply nm_then; (apply sc_cond_false; (exact ev_)); (apply sc_skip); (apply nm_then); (apply sc_seq); apply sc_seq; apply sc_region; (apply so_ex; (apply ex_assign; ((exact Ev.const))); exact rfl); apply so_nil; apply nm_then; (apply sc_block))
    refine sc_loop (fun k f L => ∃ i : Nat, i ≤ xs.length ∧ k = xs.length - i ∧ xs.take i = ys.take i ∧ At f 0 (.slice (some ⟨ba, 0, none⟩) xs.length ca) ∧ At f 1 (.slice (some ⟨bb, 0, none⟩) ys.length cb) ∧ At f 5 (.int .i64 (i : Int)) ∧ Held L [(ba, .cells (xs.map (Value.int .i64) ++ ja).toArray Ta), (bb, .cells (ys.map (Value.int .i64) ++ jb).toArray Tb)] R)
      _ ⟨0, Nat.zero_le _, rfl, rfl, (by apply Ev.at; (exact ev_)), (by apply Ev.at; (exact ev_)), (by apply Ev.at; (exact ev_)), (by apply held; (exact sel_); (exact appb_))⟩ ?_
    rintro k f L ⟨i, hi, hk, ht, a0, a1, a5, ⟨G, hG⟩⟩
    refine sc_perm hG ?_
    simp only [List.cons_append, List.nil_append]
    ((apply sc_seq); apply sc_seq; apply sc_region; (apply so_ex; (apply ex_move; (exact ev_)); exact rfl); (apply so_ex; (apply ex_move; (exact ev_)); exact rfl); (apply so_ex; (apply ex_len_slice; (exact ev_); assumption); exact rfl); (apply so_split; (apply ex_lss; (exact ev_); (exact ev_)); exact rfl; refine ⟨fun _ => ?_, fun _ => ?_⟩); apply so_nil; apply nm_then; (apply sc_cond_true; (exact ev_)); (apply sc_skip); (apply nm_then); (apply sc_seq); (apply sc_block); (apply sc_seq); (apply sc_quiet (id := 6); assumption; kernel_rfl); (apply sq_ex; (apply ex_move; (exact ev_)); exact rfl); (apply sq_ex; (apply ex_move; (exact ev_)); exact rfl); (apply sq_ex; (apply ex_indexAddr; (exact ev_); (exact ev_); assumption; assumption; (first | exact rfl | exact (rfl : (0:Int) = ((0:Nat):Int)) | exact (rfl : (1:Int) = ((1:Nat):Int)) | exact (rfl : (2:Int) = ((2:Nat):Int)) | assumption); (first | assumption | omega | decide)); exact rfl))
    · rename_i hlt
      have ia : i < xs.length := by omega
      have ib : i < ys.length := by omega
      have hA := getI (ja := ja) ia
      have hB := getI (ja := jb) ib
      ((apply sq_ex; (apply ex_load1r; (exact ev_); assumption; (exact mem_); (first | (simpa using hA) | (simpa using hB))); exact rfl); (apply sq_ex; (apply ex_move; (exact ev_)); exact rfl); (apply sq_ex; (apply ex_move; (exact ev_)); exact rfl); (apply sq_ex; (apply ex_indexAddr; (exact ev_); (exact ev_); assumption; assumption; (first | exact rfl | exact (rfl : (0:Int) = ((0:Nat):Int)) | exact (rfl : (1:Int) = ((1:Nat):Int)) | exact (rfl : (2:Int) = ((2:Nat):Int)) | assumption); (first | assumption | omega | decide)); exact rfl); (apply sq_ex; (apply ex_load1r; (exact ev_); assumption; (exact mem_); (first | (simpa using hA) | (simpa using hB))); exact rfl); (apply sq_split; (apply ex_neq; (exact ev_); (exact ev_)); exact rfl; refine ⟨fun _ => ?_, fun _ => ?_⟩); (apply sq_nil); (apply nm_then); (apply sc_cond_true; (exact ev_)); apply sc_seq; apply sc_region; (apply so_ex; (apply ex_assign; ((exact Ev.const))); exact rfl); apply so_nil; apply nm_then; (apply sc_ret); (apply rt_block); (apply rt_then); (apply rt_then); (apply rt_block); (apply rt_then))
      · rename_i hne
        have hx : (Value.bool (decide (xs = ys))) = .bool false := by
          have : xs ≠ ys := fun e => hne (by subst e; rfl)
          simp [this]
        rw [hx]
        ((apply ret_ok; (focus ((apply Res.tmp; (exact ev_)); exact Res.nil)); (exact ⟨rfl, rfl⟩); (exact sel_); (exact appb_)))
      · rename_i hne
        have heq : xs[i] = ys[i] := Classical.not_not.1 hne
        ((apply sq_nil); (apply nm_then); (apply sc_cond_false; (exact ev_)); (apply sc_skip); (apply nm_block); (apply nm_then); (apply sc_region); (apply so_ex; (apply ex_move; (exact ev_)); exact rfl); (apply so_ex; (apply ex_add; (exact ev_); ((exact Ev.const)); (first | assumption | (apply wrap_in; unfold InI; omega) | exact rfl)); exact rfl); (apply so_ex; (apply ex_assign; (exact ev_)); exact rfl); (apply so_nil); (apply nm_then))
        exact ⟨_, by rw [hk]; omega, i + 1, by omega, rfl, take_eq ia ib ht heq, (by apply Ev.at; (exact ev_)), (by apply Ev.at; (exact ev_)), (by apply Ev.at; (exact ev_)), (by apply held; (exact sel_); (exact appb_))⟩
    · rename_i hge
      have hx : (Value.bool (decide (xs = ys))) = .bool true := by
        have e : i = xs.length := by omega
        subst e
        rw [List.take_length, hl, List.take_length] at ht
        simp [ht]
      rw [hx]
      (apply so_nil; apply nm_then; (apply sc_cond_false; (exact ev_)); (apply sc_exit); (apply et_then); (apply et_then); (apply et_hit); (apply nm_then); apply sc_seq; apply sc_region; (apply so_ex; (apply ex_assign; ((exact Ev.const))); exact rfl); apply so_nil; apply nm_then; (apply sc_ret); (apply ret_ok; (focus ((apply Res.tmp; (exact ev_)); exact Res.nil)); (exact ⟨rfl, rfl⟩); (exact sel_); (exact appb_)))
end Go.Proofs.Ytbpioemenmahaaa
namespace Go.Proofs.Ytbpioemenmahaaa
open Go.Sym

theorem onO_cons (p : Int × Int) (ws : List (Int × Int)) (x : Int) : onO (p :: ws) x = if p.1 = x then some p.2 else onO ws x := by
  unfold onO
  by_cases h : p.1 = x <;> simp [h]
theorem onO_append (ws vs : List (Int × Int)) (x : Int) : onO (ws ++ vs) x = (onO ws x).or (onO vs x) := by
  unfold onO
  rw [List.find?_append]
  cases ws.find? fun p => decide (p.1 = x) <;> rfl
theorem onO_none {ws : List (Int × Int)} {x : Int} (h : hasW ws x = false) : onO ws x = none := by
  unfold onO hasW at *
  have : ws.find? (fun p => decide (p.1 = x)) = none := List.find?_eq_none.2 fun p hp => by
    have := List.any_eq_false.1 h p hp
    simpa using this
  rw [this]; rfl
theorem onO_map {ws : List (Int × Int)} {t o x : Int} : onO (ws.map fun p => if p.1 = t then (p.1, o) else p) x = if t = x then (onO ws x).map (fun _ => o) else onO ws x := by
  induction ws with
  | nil => by_cases h : t = x <;> simp [onO, h]
  | cons p ws ih =>
    rw [List.map_cons, onO_cons, onO_cons, ih]
    by_cases h1 : p.1 = t
    · by_cases h2 : t = x
      · subst h2; simp [h1]
      · have h3 : p.1 ≠ x := fun e => h2 (h1.symm.trans e)
        simp [h1, h2]
    · by_cases h2 : t = x
      · subst h2; simp [h1]
      · simp [h1, h2]
theorem onO_set (ws : List (Int × Int)) (t o x : Int) : onO (setW ws t o) x = if t = x then some o else onO ws x := by
  unfold setW
  cases h : hasW ws t with
  | true =>
    simp only [if_true]
    rw [onO_map]
    by_cases h2 : t = x
    · subst h2
      simp only [if_true]
      unfold hasW at h
      obtain ⟨p, hp, hpt⟩ := List.any_eq_true.1 h
      have : (ws.find? fun p => decide (p.1 = t)).isSome := List.find?_isSome.2 ⟨p, hp, hpt⟩
      unfold onO
      cases hq : ws.find? fun p => decide (p.1 = t) with
      | none => rw [hq] at this; cases this
      | some q => rfl
    · simp [h2]
  | false =>
    simp only [Bool.false_eq_true, if_false]
    rw [onO_append]
    by_cases h2 : t = x
    · subst h2
      rw [onO_none h]
      simp [onO]
    · simp [onO, h2]
theorem onW_set (ws : List (Int × Int)) (t o x : Int) : onW (setW ws t o) x = if t = x then o else onW ws x := by
  unfold onW
  rw [onO_set]
  split <;> rfl
theorem onO_filter {ws : List (Int × Int)} (q : Int × Int → Bool) (x : Int) (hn : (ws.map (·.1)).Nodup) : onO (ws.filter q) x = (onO ws x).bind fun o => if q (x, o) then some o else none := by
  induction ws with
  | nil => rfl
  | cons p ws ih =>
    obtain ⟨a, b⟩ := p
    rw [List.map_cons, List.nodup_cons] at hn
    rw [List.filter_cons, onO_cons]
    by_cases hax : a = x
    · subst hax
      simp only [if_true, Option.bind_some]
      cases hq : q (a, b) with
      | true => simp [onO_cons]
      | false =>
        simp only [Bool.false_eq_true, if_false]
        rw [ih hn.2]
        have : onO ws a = none := onO_none (by
          unfold hasW
          refine List.any_eq_false.2 fun p hp => ?_
          have : p.1 ≠ a := fun e => hn.1 (List.mem_map.2 ⟨p, hp, e⟩)
          simpa using this)
        rw [this]; rfl
    · simp only [hax, if_false]
      split
      · rw [onO_cons]; simp only [hax, if_false]; exact ih hn.2
      · exact ih hn.2
theorem onW_del (ws : List (Int × Int)) (t x : Int) (hn : (ws.map (·.1)).Nodup) : onW (delW ws t) x = if t = x then 0 else onW ws x := by
  unfold onW delW
  rw [onO_filter _ _ hn]
  cases onO ws x with
  | none => simp
  | some o =>
    by_cases h : t = x
    · subst h; simp
    · have : ¬ x = t := fun e => h e.symm
      simp [h, this]
/-- the edges to o go -/
def endW (ws : List (Int × Int)) (o : Int) : List (Int × Int) := ws.filter fun p => !decide (p.2 = o)
theorem onW_end (ws : List (Int × Int)) (o x : Int) (hn : (ws.map (·.1)).Nodup) : onW (endW ws o) x = if onW ws x = o then 0 else onW ws x := by
  unfold onW endW
  rw [onO_filter _ _ hn]
  cases onO ws x with
  | none => simp
  | some v =>
    by_cases h : v = o
    · subst h; simp
    · simp [h]
theorem hasW_of_onW {ws : List (Int × Int)} {x : Int} (h : onW ws x ≠ 0) : ∃ o, (x, o) ∈ ws ∧ o = onW ws x := by
  unfold onW onO at h ⊢
  cases hq : ws.find? fun p => decide (p.1 = x) with
  | none => rw [hq] at h; exact absurd rfl h
  | some q =>
    obtain ⟨a, b⟩ := q
    have h1 := List.find?_some hq
    have h2 := List.mem_of_find?_eq_some hq
    simp at h1
    subst h1
    exact ⟨b, h2, rfl⟩
theorem onW_of_mem {ws : List (Int × Int)} {x o : Int} (hn : (ws.map (·.1)).Nodup) (h : (x, o) ∈ ws) : onW ws x = o := by
  have : onO ws x = some o := by
    induction ws with
    | nil => cases h
    | cons p ws ih =>
      rw [List.map_cons, List.nodup_cons] at hn
      rw [onO_cons]
      rcases List.mem_cons.1 h with e | e
      · rw [← e]; simp
      · have : p.1 ≠ x := fun e2 => hn.1 (List.mem_map.2 ⟨_, e, e2.symm⟩)
        simp only [this, if_false]
        exact ih hn.2 e
  unfold onW; rw [this]; rfl
/-- who waits for o -/
def whoW (ws : List (Int × Int)) (o : Int) : List Int := (ws.filter fun p => decide (p.2 = o)).map (·.1)
theorem mem_whoW {ws : List (Int × Int)} {o x : Int} : x ∈ whoW ws o ↔ (x, o) ∈ ws := by
  unfold whoW
  rw [List.mem_map]
  constructor
  · rintro ⟨⟨a, b⟩, h, rfl⟩
    obtain ⟨h1, h2⟩ := List.mem_filter.1 h
    simp at h2
    subst h2
    exact h1
  · intro h
    exact ⟨(x, o), List.mem_filter.2 ⟨h, by simp⟩, rfl⟩
theorem whoW_nodup {ws : List (Int × Int)} (o : Int) (hn : (ws.map (·.1)).Nodup) : (whoW ws o).Nodup := by
  unfold whoW
  exact (List.Sublist.map _ List.filter_sublist).nodup hn
/-- a sorted list of those that wait for o, when there is one alone -/
theorem who_one {ws : List (Int × Int)} {o x : Int} {zs : List Int} (hn : (ws.map (·.1)).Nodup) (hx : onW ws x = o) (ho : o ≠ 0) (hu : ∀ y, onW ws y = o → y = x) (hp : zs.Perm (whoW ws o)) : zs = [x] := by
  have h1 : x ∈ whoW ws o := by
    obtain ⟨v, hv, he⟩ := hasW_of_onW (ws := ws) (x := x) (by rw [hx]; exact ho)
    rw [mem_whoW]
    rw [hx] at he
    exact he ▸ hv
  have h2 : ∀ y ∈ whoW ws o, y = x := fun y hy => hu y (onW_of_mem hn (mem_whoW.1 hy))
  have h3 : whoW ws o = [x] := by
    have hnd := whoW_nodup o hn
    generalize whoW ws o = l at h1 h2 hnd
    cases l with
    | nil => cases h1
    | cons a l =>
      have := h2 a (List.mem_cons_self ..)
      subst this
      cases l with
      | nil => rfl
      | cons b l =>
        have := h2 b (List.mem_cons_of_mem _ (List.mem_cons_self ..))
        subst this
        simp at hnd
  rw [h3] at hp
  exact List.perm_singleton.1 hp
/-! chains -/
/-- who is below m waits for the next; k - 1 (if any) waits for nobody -/
def ChW (m k : Int) (ws : List (Int × Int)) : Prop := ∀ x, onW ws x = if 1 ≤ x ∧ x < m ∧ x + 1 ≠ k then x + 1 else 0
theorem chW_step {m k : Int} {ws : List (Int × Int)} (h : ChW m k ws) (hm : 1 ≤ m) (x : Int) : itW ws 1 x = 0 ∨ (itW ws 1 x = x + 1 ∧ 1 ≤ x ∧ x < m) := by
  show onW ws x = 0 ∨ (onW ws x = x + 1 ∧ _)
  rw [h x]
  split
  · exact .inr ⟨rfl, by omega, by omega⟩
  · exact .inl rfl
theorem chW_it {m k : Int} {ws : List (Int × Int)} (h : ChW m k ws) : ∀ (n : Nat) (x : Int), (itW ws n x = 0) ∨ (itW ws n x = x + n ∧ (n = 0 ∨ (1 ≤ x ∧ x + n ≤ m ∧ (k ≤ x ∨ x + n < k))))
  | 0, x => .inr ⟨by simp [itW], .inl rfl⟩
  | n + 1, x => by
    rw [itW_succ]
    rcases chW_it h n x with e | ⟨e, e2⟩
    · rw [e, h 0]; exact .inl (by split <;> omega)
    · rw [e, h (x + n)]
      split
      · refine .inr ⟨by push_cast; omega, .inr ?_⟩
        rename_i hc
        push_cast
        rcases e2 with e2 | e2
        · subst e2; simp at hc ⊢; omega
        · omega
      · exact .inl rfl
theorem chW_up {m k : Int} {ws : List (Int × Int)} (h : ChW m k ws) : ∀ (n : Nat) (x : Int), 1 ≤ x → x + n ≤ m → (k ≤ x ∨ x + n < k) → itW ws n x = x + n
  | 0, x, _, _, _ => by simp [itW]
  | n + 1, x, h1, h2, h3 => by
    rw [itW_succ, chW_up h n x h1 (by push_cast at h2; omega) (by push_cast at h3; omega), h (x + n)]
    push_cast at *
    rw [if_pos (by omega)]
    omega
theorem chW_ac {m k : Int} {ws : List (Int × Int)} (h : ChW m k ws) (hm : 1 ≤ m) : AcW ws := ⟨fun x => by
  refine ⟨m.toNat + 1, ?_⟩
  rcases chW_it h (m.toNat + 1) x with e | ⟨_, e⟩
  · exact e
  · have h2 : (m.toNat : Int) = m := Int.toNat_of_nonneg (by omega)
    rcases e with e | ⟨e1, e2, _⟩
    · omega
    · omega, by rw [h 0]; split <;> omega⟩
end Go.Proofs.Ytbpioemenmahaaa
