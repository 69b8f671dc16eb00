/- Locks: the reference: put (as in F4, without the waits). Locks: the reference: in, Holders. -/
import Derived.Test.YtbpioemenmahaaaQMa
set_option linter.unusedVariables false
set_option linter.unusedSimpArgs false
set_option linter.unnecessarySimpa false
namespace Go.Proofs.Ytbpioemenmahaaa
open Go.Sym

def putL : List Int → Int → List Int
  | [], n => [n]
  | x :: xs, n => if n < x then n :: x :: xs else x :: putL xs n
/-- has one larger come up? -/
def anyGt (xs : List Int) (n : Int) : Bool := xs.any fun x => decide (n < x)
def outL (xs : List Int) (n : Int) : List Int := if anyGt xs n then putL xs n else xs
theorem putL_false : ∀ {xs : List Int} {n : Int}, anyGt xs n = false → putL xs n = xs ++ [n]
  | [], n, _ => rfl
  | x :: xs, n, h => by
    unfold anyGt at h
    simp only [List.any_cons, Bool.or_eq_false_iff, decide_eq_false_iff_not] at h
    unfold putL
    rw [if_neg h.1, putL_false (by unfold anyGt; exact h.2)]
    rfl
theorem putL_snoc : ∀ {xs : List Int} {n x : Int}, anyGt xs n = true → putL (xs ++ [x]) n = putL xs n ++ [x]
  | [], n, x, h => by cases h
  | y :: xs, n, x, h => by
    rw [List.cons_append]
    unfold putL
    by_cases hy : n < y
    · rw [if_pos hy, if_pos hy]; rfl
    · rw [if_neg hy, if_neg hy, putL_snoc (by unfold anyGt at h ⊢; simpa [hy] using h)]
      rfl
theorem putL_here : ∀ {xs : List Int} {n x : Int}, anyGt xs n = false → n < x → putL (xs ++ [x]) n = xs ++ [n] ++ [x]
  | [], n, x, _, hx => by simp [putL, hx]
  | y :: xs, n, x, h, hx => by
    unfold anyGt at h
    simp only [List.any_cons, Bool.or_eq_false_iff, decide_eq_false_iff_not] at h
    rw [List.cons_append]
    unfold putL
    rw [if_neg h.1, putL_here (by unfold anyGt; exact h.2) hx]
    rfl
theorem anyGt_snoc (xs : List Int) (n x : Int) : anyGt (xs ++ [x]) n = (anyGt xs n || decide (n < x)) := by
  unfold anyGt; rw [List.any_append]; simp
theorem outL_done {xs : List Int} {n x : Int} (h : anyGt xs n = true) : outL (xs ++ [x]) n = outL xs n ++ [x] := by
  unfold outL
  rw [anyGt_snoc, h, Bool.true_or, if_pos rfl, if_pos rfl, putL_snoc h]
theorem outL_new {xs : List Int} {n x : Int} (h : anyGt xs n = false) (hx : n < x) : outL (xs ++ [x]) n = outL xs n ++ [n] ++ [x] := by
  unfold outL
  rw [anyGt_snoc, h, Bool.false_or, decide_eq_true hx, if_pos rfl, if_neg (by simp), putL_here h hx]
theorem outL_keep {xs : List Int} {n x : Int} (h : anyGt xs n = false) (hx : ¬ n < x) : outL (xs ++ [x]) n = outL xs n ++ [x] := by
  unfold outL
  rw [anyGt_snoc, h, Bool.false_or, decide_eq_false hx, if_neg (by simp), if_neg (by simp)]
theorem putL_len : ∀ (xs : List Int) (n : Int), (putL xs n).length = xs.length + 1
  | [], n => rfl
  | x :: xs, n => by
    unfold putL
    split
    · rfl
    · rw [List.length_cons, putL_len xs n]; rfl
theorem outL_len (xs : List Int) (n : Int) : (outL xs n).length ≤ xs.length + 1 := by
  unfold outL
  split
  · rw [putL_len]; exact Nat.le_refl _
  · omega
theorem putL_perm : ∀ (xs : List Int) (n : Int), (putL xs n).Perm (n :: xs)
  | [], n => List.Perm.refl _
  | x :: xs, n => by
    unfold putL
    split
    · exact List.Perm.refl _
    · exact ((putL_perm xs n).cons x).trans (List.Perm.swap n x xs)
theorem putL_sorted : ∀ {xs : List Int} {n : Int}, xs.Pairwise (· ≤ ·) → (putL xs n).Pairwise (· ≤ ·)
  | [], n, _ => by simp [putL]
  | x :: xs, n, h => by
    rw [List.pairwise_cons] at h
    unfold putL
    split
    · rename_i hx
      refine List.pairwise_cons.2 ⟨fun y hy => ?_, List.pairwise_cons.2 h⟩
      rcases List.mem_cons.1 hy with e | hy
      · omega
      · have := h.1 y hy; omega
    · rename_i hx
      refine List.pairwise_cons.2 ⟨fun y hy => ?_, putL_sorted h.2⟩
      rcases List.mem_cons.1 ((putL_perm xs n).mem_iff.1 hy) with e | hy
      · omega
      · exact h.1 y hy
theorem takeI_snoc {zs : List Int} {j : Nat} (h : j < zs.length) : zs.take (j + 1) = zs.take j ++ [zs[j]] := by
  rw [List.take_add_one, List.getElem?_eq_getElem h]; rfl
theorem put_tri {b cap : Nat} {xs : List Int} {junk : List Value} (hS : xs.length ≤ 4096) (n : Int) : Tri Try.prog 53 #[.slice (some ⟨b, 0, none⟩) xs.length cap, .int .i64 n] [(b, .cells (xs.map (Value.int .i64) ++ junk).toArray 3)] fun v L =>
    ∃ (b2 cap2 : Nat) (junk2 : List Value), v = .slice (some ⟨b2, 0, none⟩) (putL xs n).length cap2 ∧ L = [(b2, .cells ((putL xs n).map (Value.int .i64) ++ junk2).toArray 3), (b, .cells (xs.map (Value.int .i64) ++ junk).toArray 3)] := by
  have f_mixed := mixed; have f_by3 := by3; have f_ty3 := ty3; have f_ty49 := ty49; have f_un_49 : Und Try.prog 49 _ := ⟨Try.underlying49⟩; have f_zero3 := zero3; have f_zv3 := zv3
  refine tri_intro (args := [_, _]) Try.func53 rfl Try.ntmps53 rfl (rs := _) rfl rfl fun E R => ?_
  simp only [fr, List.cons_append, List.nil_append]
  (apply sc_seq; apply sc_region; (apply so_ex; (apply ex_assign; ((exact Ev.const))); exact rfl); apply so_nil; apply nm_then; apply sc_seq; apply sc_region; (apply so_buildS; (focus (exact EvP.nil)); assumption; assumption; assumption; (focus (repeat (first | exact SeqP.nil | (apply SeqP.cons; exact rfl; exact rfl) | exact App.nil | apply App.cons))); exact rfl; exact rfl; exact rfl; intro _); (apply so_ex; (apply ex_assign; (exact ev_)); exact rfl); apply so_nil; apply nm_then; apply sc_seq; apply sc_region; (apply so_ex; (apply ex_assign; ((exact Ev.const))); exact rfl); apply so_nil; apply nm_then; (apply sc_seq); apply sc_seq; apply sc_region; (apply so_ex; (apply ex_assign; ((exact Ev.const))); exact rfl); apply so_nil; apply nm_then; (apply sc_block))
  rename_i b0
  refine sc_loop (fun q f L => ∃ (j b2 cap2 : Nat) (ds : List Int) (dn : Bool) (junk2 : List Value), j ≤ xs.length ∧ q = xs.length - j ∧ ds = outL (xs.take j) n ∧ dn = anyGt (xs.take j) n ∧ At f 0 (.slice (some ⟨b, 0, none⟩) xs.length cap) ∧ At f 1 (.int .i64 n) ∧ At f 5 (.slice (some ⟨b2, 0, none⟩) ds.length cap2) ∧ At f 6 (.bool dn) ∧ At f 7 (.int .i64 (j : Int)) ∧ (ds.map (Value.int .i64) ++ junk2).length = cap2 * 1 ∧
    Held L [(b2, .cells (ds.map (Value.int .i64) ++ junk2).toArray 3), (b, .cells (xs.map (Value.int .i64) ++ junk).toArray 3)] R)
    _ ⟨0, b0, 0, [], false, [], Nat.zero_le _, rfl, rfl, rfl, (by apply Ev.at; (exact ev_)), (by apply Ev.at; (exact ev_)), (by apply Ev.at; (exact ev_)), (by apply Ev.at; (exact ev_)), (by apply Ev.at; (exact ev_)), rfl, (by apply held; (exact sel_); (exact appb_))⟩ ?_
  rintro q f L ⟨j, b2, cap2, ds, dn, junk2, hj1, hq, hds, hdn, a0, a1, a5, a6, a7, hjl2, ⟨G, hG⟩⟩
  refine sc_perm hG ?_
  simp only [List.cons_append, List.nil_append]
  have hxl : (ds.map (Value.int .i64)).length = ds.length * 1 := by simp
  have hbz : ds.length ≤ 4097 := by
    have := outL_len (xs.take j) n
    rw [← hds] at this
    simp at this
    omega
  ((apply sc_seq); apply sc_seq; apply sc_region; (apply so_ex; (apply ex_move; (exact ev_)); exact rfl); (apply so_ex; (apply ex_move; (exact ev_)); exact rfl); (apply so_ex; (apply ex_len_slice; (exact ev_); assumption); exact rfl); (apply so_split; (apply ex_lss; (exact ev_); (exact ev_)); exact rfl; refine ⟨fun _ => ?_, fun _ => ?_⟩); apply so_nil; apply nm_then; (apply sc_cond_true; (exact ev_)); (apply sc_skip); (apply nm_then); (apply sc_seq); (apply sc_block); (apply sc_seq); apply sc_seq; apply sc_region; (apply so_ex; (apply ex_move; (exact ev_)); exact rfl); (apply so_ex; (apply ex_not; (exact ev_)); exact rfl); (apply so_ex; (apply ex_move; (exact ev_)); exact rfl))
  · rename_i hlt
    have hjl : j < xs.length := by omega
    have hA := getI (ja := junk) hjl
    have hA' : (xs.map (Value.int .i64) ++ junk)[0 + j * 1]? = some (.int .i64 xs[j]) := by simpa using hA
    have hsn := takeI_snoc hjl
    have e2 : ∀ y : Int, (ds ++ [y]).map (Value.int .i64) = ds.map (Value.int .i64) ++ [Value.int .i64 y] := fun y => by simp
    have e1 : ∀ y : Int, (ds ++ [y]).length = ds.length + 1 := fun y => by simp
    generalize xs[j] = x at hA' hsn
    cases dn with
    | true =>
      ((apply so_skip; exact rfl; (exact ev_); exact rfl; exact rfl; exact rfl); (apply so_skip; exact rfl; (exact ev_); exact rfl; exact rfl; exact rfl); (apply so_skip; exact rfl; (exact ev_); exact rfl; exact rfl; exact rfl); (apply so_skip; exact rfl; (exact ev_); exact rfl; exact rfl; exact rfl); (apply so_skip; exact rfl; (exact ev_); exact rfl; exact rfl; exact rfl); (apply so_skip; exact rfl; (exact ev_); exact rfl; exact rfl; exact rfl); (apply so_ex; (apply ex_pick_f; (exact ev_); ((exact Ev.const))); exact rfl); apply so_nil; apply nm_then; (apply sc_cond_false; (exact ev_)); (apply sc_skip); (apply nm_then); (apply sc_region); (apply so_ex; (apply ex_move; (exact ev_)); exact rfl); (apply so_ex; (apply ex_move; (exact ev_)); exact rfl); (apply so_ex; (apply ex_move; (exact ev_)); exact rfl); (apply so_ex; (apply ex_indexAddr; (exact ev_); (exact ev_); assumption; assumption; (first | exact rfl | exact (rfl : (0:Int) = ((0:Nat):Int)) | exact (rfl : (1:Int) = ((1:Nat):Int)) | exact (rfl : (2:Int) = ((2:Nat):Int)) | assumption); (first | assumption | omega | decide)); exact rfl); (apply so_ex; (apply ex_load1r; (exact ev_); assumption; (exact mem_); exact hA'); exact rfl); (apply so_buildS; (focus ((apply EvP.cons; (exact ev_)); exact EvP.nil)); assumption; assumption; assumption; (focus (repeat (first | exact SeqP.nil | (apply SeqP.cons; exact rfl; exact rfl) | exact App.nil | apply App.cons))); exact rfl; exact rfl; exact rfl; intro _); (apply so_app1; (exact ev_); (exact ev_); (exact pick_); (exact mem_); assumption; assumption; assumption; assumption; assumption; exact rfl; assumption; exact rfl; exact rfl; (first | assumption | omega | decide); (first | assumption | omega | decide); exact rfl; exact rfl; exact rfl; intro _ _ _ _ _); (apply so_ex; (apply ex_assign; (exact ev_)); exact rfl); (apply so_nil); (apply nm_block); (apply nm_then); (apply sc_region); (apply so_ex; (apply ex_move; (exact ev_)); exact rfl); (apply so_ex; (apply ex_add; (exact ev_); ((exact Ev.const)); (first | assumption | (apply wrap_in; unfold InI; omega) | exact rfl)); exact rfl); (apply so_ex; (apply ex_assign; (exact ev_)); exact rfl); (apply so_nil); (apply nm_then))
      rename_i _ b3 cap3 junk3 h3 h4
      exact ⟨_, by rw [hq]; omega, j + 1, b3, cap3, ds ++ [x], true, junk3, by omega, rfl, by rw [hsn, outL_done hdn.symm, hds], by rw [hsn, anyGt_snoc, ← hdn]; rfl, (by apply Ev.at; (exact ev_)), (by apply Ev.at; (exact ev_)), by rw [e1]; exact (by apply Ev.at; (exact ev_)), (by apply Ev.at; (exact ev_)), (by apply Ev.at; (exact ev_)), by rw [e2]; exact h3, by rw [e2]; exact (by apply held; (exact sel_); (exact appb_))⟩
    | false =>
      ((apply so_want; exact rfl; (exact ev_); exact rfl; exact rfl); (apply so_ex; (apply ex_move; (exact ev_)); exact rfl); (apply so_want; exact rfl; (exact ev_); exact rfl; exact rfl); (apply so_ex; (apply ex_move; (exact ev_)); exact rfl); (apply so_want; exact rfl; (exact ev_); exact rfl; exact rfl); (apply so_ex; (apply ex_move; (exact ev_)); exact rfl); (apply so_want; exact rfl; (exact ev_); exact rfl; exact rfl); (apply so_ex; (apply ex_indexAddr; (exact ev_); (exact ev_); assumption; assumption; (first | exact rfl | exact (rfl : (0:Int) = ((0:Nat):Int)) | exact (rfl : (1:Int) = ((1:Nat):Int)) | exact (rfl : (2:Int) = ((2:Nat):Int)) | assumption); (first | assumption | omega | decide)); exact rfl); (apply so_want; exact rfl; (exact ev_); exact rfl; exact rfl); (apply so_ex; (apply ex_load1r; (exact ev_); assumption; (exact mem_); exact hA'); exact rfl); (apply so_want; exact rfl; (exact ev_); exact rfl; exact rfl); (apply so_split; (apply ex_lss; (exact ev_); (exact ev_)); exact rfl; refine ⟨fun _ => ?_, fun _ => ?_⟩); (apply so_ex; (apply ex_pick_t; (exact ev_); (exact ev_)); exact rfl); apply so_nil; apply nm_then; (apply sc_cond_true; (exact ev_)); apply sc_seq; apply sc_region; (apply so_ex; (apply ex_move; (exact ev_)); exact rfl); (apply so_ex; (apply ex_move; (exact ev_)); exact rfl); (apply so_buildS; (focus ((apply EvP.cons; (exact ev_)); exact EvP.nil)); assumption; assumption; assumption; (focus (repeat (first | exact SeqP.nil | (apply SeqP.cons; exact rfl; exact rfl) | exact App.nil | apply App.cons))); exact rfl; exact rfl; exact rfl; intro _); (apply so_app1; (exact ev_); (exact ev_); (exact pick_); (exact mem_); assumption; assumption; assumption; assumption; assumption; exact rfl; assumption; exact rfl; exact rfl; (first | assumption | omega | decide); (first | assumption | omega | decide); exact rfl; exact rfl; exact rfl; intro _ _ _ _ _); (apply so_ex; (apply ex_assign; (exact ev_)); exact rfl); apply so_nil; apply nm_then; (apply sc_region); (apply so_ex; (apply ex_assign; ((exact Ev.const))); exact rfl); apply so_nil; apply nm_then; (apply sc_region); (apply so_ex; (apply ex_move; (exact ev_)); exact rfl); (apply so_ex; (apply ex_move; (exact ev_)); exact rfl); (apply so_ex; (apply ex_move; (exact ev_)); exact rfl); (apply so_ex; (apply ex_indexAddr; (exact ev_); (exact ev_); assumption; assumption; (first | exact rfl | exact (rfl : (0:Int) = ((0:Nat):Int)) | exact (rfl : (1:Int) = ((1:Nat):Int)) | exact (rfl : (2:Int) = ((2:Nat):Int)) | assumption); (first | assumption | omega | decide)); exact rfl); (apply so_ex; (apply ex_load1r; (exact ev_); assumption; (exact mem_); exact hA'); exact rfl); (apply so_buildS; (focus ((apply EvP.cons; (exact ev_)); exact EvP.nil)); assumption; assumption; assumption; (focus (repeat (first | exact SeqP.nil | (apply SeqP.cons; exact rfl; exact rfl) | exact App.nil | apply App.cons))); exact rfl; exact rfl; exact rfl; intro _); (apply so_app1; (exact ev_); (exact ev_); (exact pick_); (exact mem_); assumption; assumption; assumption; assumption; assumption; exact rfl; assumption; exact rfl; exact rfl; (first | assumption | omega | decide); (first | assumption | omega | decide); exact rfl; exact rfl; exact rfl; intro _ _ _ _ _); (apply so_ex; (apply ex_assign; (exact ev_)); exact rfl); (apply so_nil); (apply nm_block); (apply nm_then); (apply sc_region); (apply so_ex; (apply ex_move; (exact ev_)); exact rfl); (apply so_ex; (apply ex_add; (exact ev_); ((exact Ev.const)); (first | assumption | (apply wrap_in; unfold InI; omega) | exact rfl)); exact rfl); (apply so_ex; (apply ex_assign; (exact ev_)); exact rfl); (apply so_nil); (apply nm_then))
      · rename_i hnx _ b3 cap3 junk3 h3 h4 _ b4 cap4 junk4 h5 h6
        have hnx' : n < x := hnx
        have e3 : (ds ++ [n] ++ [x]).map (Value.int .i64) = ds.map (Value.int .i64) ++ [Value.int .i64 n] ++ [Value.int .i64 x] := by simp
        have e4 : (ds ++ [n] ++ [x]).length = ds.length + 1 + 1 := by simp
        exact ⟨_, by rw [hq]; omega, j + 1, b4, cap4, ds ++ [n] ++ [x], true, junk4, by omega, rfl, by rw [hsn, outL_new hdn.symm hnx', hds], by rw [hsn, anyGt_snoc, decide_eq_true hnx', Bool.or_true], (by apply Ev.at; (exact ev_)), (by apply Ev.at; (exact ev_)), by rw [e4]; exact (by apply Ev.at; (exact ev_)), (by apply Ev.at; (exact ev_)), (by apply Ev.at; (exact ev_)), by rw [e3]; exact h5, by rw [e3]; exact (by apply held; (exact sel_); (exact appb_))⟩
      · rename_i hnx
        have hnx' : ¬ n < x := hnx
        ((apply so_ex; (apply ex_pick_t; (exact ev_); (exact ev_)); exact rfl); apply so_nil; apply nm_then; (apply sc_cond_false; (exact ev_)); (apply sc_skip); (apply nm_then); (apply sc_region); (apply so_ex; (apply ex_move; (exact ev_)); exact rfl); (apply so_ex; (apply ex_move; (exact ev_)); exact rfl); (apply so_ex; (apply ex_move; (exact ev_)); exact rfl); (apply so_ex; (apply ex_indexAddr; (exact ev_); (exact ev_); assumption; assumption; (first | exact rfl | exact (rfl : (0:Int) = ((0:Nat):Int)) | exact (rfl : (1:Int) = ((1:Nat):Int)) | exact (rfl : (2:Int) = ((2:Nat):Int)) | assumption); (first | assumption | omega | decide)); exact rfl); (apply so_ex; (apply ex_load1r; (exact ev_); assumption; (exact mem_); exact hA'); exact rfl); (apply so_buildS; (focus ((apply EvP.cons; (exact ev_)); exact EvP.nil)); assumption; assumption; assumption; (focus (repeat (first | exact SeqP.nil | (apply SeqP.cons; exact rfl; exact rfl) | exact App.nil | apply App.cons))); exact rfl; exact rfl; exact rfl; intro _); (apply so_app1; (exact ev_); (exact ev_); (exact pick_); (exact mem_); assumption; assumption; assumption; assumption; assumption; exact rfl; assumption; exact rfl; exact rfl; (first | assumption | omega | decide); (first | assumption | omega | decide); exact rfl; exact rfl; exact rfl; intro _ _ _ _ _); (apply so_ex; (apply ex_assign; (exact ev_)); exact rfl); (apply so_nil); (apply nm_block); (apply nm_then); (apply sc_region); (apply so_ex; (apply ex_move; (exact ev_)); exact rfl); (apply so_ex; (apply ex_add; (exact ev_); ((exact Ev.const)); (first | assumption | (apply wrap_in; unfold InI; omega) | exact rfl)); exact rfl); (apply so_ex; (apply ex_assign; (exact ev_)); exact rfl); (apply so_nil); (apply nm_then))
        rename_i _ b3 cap3 junk3 h3 h4
        exact ⟨_, by rw [hq]; omega, j + 1, b3, cap3, ds ++ [x], false, junk3, by omega, rfl, by rw [hsn, outL_keep hdn.symm hnx', hds], by rw [hsn, anyGt_snoc, ← hdn, decide_eq_false hnx']; rfl, (by apply Ev.at; (exact ev_)), (by apply Ev.at; (exact ev_)), by rw [e1]; exact (by apply Ev.at; (exact ev_)), (by apply Ev.at; (exact ev_)), (by apply Ev.at; (exact ev_)), by rw [e2]; exact h3, by rw [e2]; exact (by apply held; (exact sel_); (exact appb_))⟩
  · rename_i hge
    have ej : j = xs.length := by omega
    subst ej
    rw [List.take_length] at hds hdn
    cases dn with
    | true =>
      have ep : putL xs n = ds := by rw [hds]; unfold outL; rw [← hdn, if_pos rfl]
      rw [ep]
      (apply so_nil; apply nm_then; (apply sc_cond_false; (exact ev_)); (apply sc_exit); (apply et_then); (apply et_then); (apply et_hit); (apply nm_then); (apply sc_seq); apply sc_seq; apply sc_region; (apply so_ex; (apply ex_move; (exact ev_)); exact rfl); (apply so_ex; (apply ex_not; (exact ev_)); exact rfl); apply so_nil; apply nm_then; (apply sc_cond_false; (exact ev_)); (apply sc_skip); (apply nm_then); apply sc_seq; apply sc_region; (apply so_ex; (apply ex_move; (exact ev_)); exact rfl); (apply so_ex; (apply ex_assign; (exact ev_)); exact rfl); apply so_nil; apply nm_then; (apply sc_ret); (apply ret_ok; (focus ((apply Res.tmp; (exact ev_)); exact Res.nil)); (exact ⟨b2, cap2, junk2, rfl, rfl⟩); (exact sel_); (exact appb_)))
    | false =>
      have ep : putL xs n = ds ++ [n] := by rw [putL_false hdn.symm, hds]; unfold outL; rw [← hdn, if_neg (by simp)]
      have e2 : (ds ++ [n]).map (Value.int .i64) = ds.map (Value.int .i64) ++ [Value.int .i64 n] := by simp
      have e1 : (ds ++ [n]).length = ds.length + 1 := by simp
      rw [ep, e1, e2]
      (apply so_nil; apply nm_then; (apply sc_cond_false; (exact ev_)); (apply sc_exit); (apply et_then); (apply et_then); (apply et_hit); (apply nm_then); (apply sc_seq); apply sc_seq; apply sc_region; (apply so_ex; (apply ex_move; (exact ev_)); exact rfl); (apply so_ex; (apply ex_not; (exact ev_)); exact rfl); apply so_nil; apply nm_then; (apply sc_cond_true; (exact ev_)); (apply sc_region); (apply so_ex; (apply ex_move; (exact ev_)); exact rfl); (apply so_ex; (apply ex_move; (exact ev_)); exact rfl); (apply so_buildS; (focus ((apply EvP.cons; (exact ev_)); exact EvP.nil)); assumption; assumption; assumption; (focus (repeat (first | exact SeqP.nil | (apply SeqP.cons; exact rfl; exact rfl) | exact App.nil | apply App.cons))); exact rfl; exact rfl; exact rfl; intro _); (apply so_app1; (exact ev_); (exact ev_); (exact pick_); (exact mem_); assumption; assumption; assumption; assumption; assumption; exact rfl; assumption; exact rfl; exact rfl; (first | assumption | omega | decide); (first | assumption | omega | decide); exact rfl; exact rfl; exact rfl; intro _ _ _ _ _); (apply so_ex; (apply ex_assign; (exact ev_)); exact rfl); apply so_nil; apply nm_then; apply sc_seq; apply sc_region; (apply so_ex; (apply ex_move; (exact ev_)); exact rfl); (apply so_ex; (apply ex_assign; (exact ev_)); exact rfl); apply so_nil; apply nm_then; (apply sc_ret))
      rename_i _ b3 cap3 junk3 h3 h4
      (apply ret_ok; (focus ((apply Res.tmp; (exact ev_)); exact Res.nil)); (exact ⟨b3, cap3, junk3, rfl, rfl⟩); (exact sel_); (exact appb_))
end Go.Proofs.Ytbpioemenmahaaa
namespace Go.Proofs.Ytbpioemenmahaaa
open Go.Sym

theorem in_tri {b cap : Nat} {xs : List Int} {junk : List Value} {T : TypeId} (hS : xs.length ≤ 1000000) (n : Int) :
    TriQ Try.prog 61 #[.slice (some ⟨b, 0, none⟩) xs.length cap, .int .i64 n] [(b, .cells (xs.map (Value.int .i64) ++ junk).toArray T)] (.bool (decide (n ∈ xs))) := by
  have f_mixed := mixed; have f_by3 := by3; have f_ty3 := ty3; have f_ty49 := ty49; have f_un_49 : Und Try.prog 49 _ := ⟨Try.underlying49⟩; have f_zero3 := zero3; have f_zv3 := zv3
  refine tri_intro (args := [_, _]) Try.func61 rfl Try.ntmps61 rfl (rs := _) rfl rfl fun E R => ?_
  simp only [fr, List.cons_append, List.nil_append]
  (apply sc_seq; apply sc_region; (apply so_ex; (apply ex_assign; ((exact Ev.const))); exact rfl); apply so_nil; apply nm_then; (apply sc_seq); apply sc_seq; apply sc_region; (apply so_ex; (apply ex_assign; ((exact Ev.const))); exact rfl); apply so_nil; apply nm_then; (apply sc_block))
  refine sc_loop (fun k f L => ∃ i : Nat, i ≤ xs.length ∧ k = xs.length - i ∧ n ∉ xs.take i ∧ At f 0 (.slice (some ⟨b, 0, none⟩) xs.length cap) ∧ At f 1 (.int .i64 n) ∧ At f 5 (.int .i64 (i : Int)) ∧ Held L [(b, .cells (xs.map (Value.int .i64) ++ junk).toArray T)] R)
    _ ⟨0, Nat.zero_le _, rfl, by simp, (by apply Ev.at; (exact ev_)), (by apply Ev.at; (exact ev_)), (by apply Ev.at; (exact ev_)), (by apply held; (exact sel_); (exact appb_))⟩ ?_
  rintro k f L ⟨i, hi, hk, hno, a0, a1, a5, ⟨G, hG⟩⟩
  refine sc_perm hG ?_
  simp only [List.cons_append, List.nil_append]
  ((apply sc_seq); apply sc_seq; apply sc_region; (apply so_ex; (apply ex_move; (exact ev_)); exact rfl); (apply so_ex; (apply ex_move; (exact ev_)); exact rfl); (apply so_ex; (apply ex_len_slice; (exact ev_); assumption); exact rfl); (apply so_split; (apply ex_lss; (exact ev_); (exact ev_)); exact rfl; refine ⟨fun _ => ?_, fun _ => ?_⟩); apply so_nil; apply nm_then; (apply sc_cond_true; (exact ev_)); (apply sc_skip); (apply nm_then); (apply sc_seq); (apply sc_block); apply sc_seq; apply sc_region; (apply so_ex; (apply ex_move; (exact ev_)); exact rfl); (apply so_ex; (apply ex_move; (exact ev_)); exact rfl); (apply so_ex; (apply ex_indexAddr; (exact ev_); (exact ev_); assumption; assumption; (first | exact rfl | exact (rfl : (0:Int) = ((0:Nat):Int)) | exact (rfl : (1:Int) = ((1:Nat):Int)) | exact (rfl : (2:Int) = ((2:Nat):Int)) | assumption); (first | assumption | omega | decide)); exact rfl))
  · rename_i hlt
    have ia : i < xs.length := by omega
    have hA := getI (ja := junk) ia
    have htk := take_snoc ia
    have hmem : xs[i] ∈ xs := List.getElem_mem ia
    generalize xs[i] = x at hA htk hmem
    by_cases he : x = n
    · have hx : (Value.bool (decide (n ∈ xs))) = .bool true := by rw [← he]; simp [hmem]
      rw [hx]
      ((apply so_ex; (apply ex_load1r; (exact ev_); assumption; (exact mem_); (simpa using hA)); exact rfl); (apply so_ex; (apply ex_move; (exact ev_)); exact rfl); (apply so_ex; (apply ex_eql_t; (exact ev_); (exact ev_); (first | assumption | omega)); exact rfl); apply so_nil; apply nm_then; (apply sc_cond_true; (exact ev_)); apply sc_seq; apply sc_region; (apply so_ex; (apply ex_assign; ((exact Ev.const))); exact rfl); apply so_nil; apply nm_then; (apply sc_ret); (apply rt_block); (apply rt_then); (apply rt_then); (apply rt_block); (apply rt_then); (apply ret_ok; (focus ((apply Res.tmp; (exact ev_)); exact Res.nil)); (exact ⟨rfl, rfl⟩); (exact sel_); (exact appb_)))
    · have hno2 : n ∉ xs.take (i + 1) := by
        rw [htk, List.mem_append, List.mem_singleton]
        exact fun h => h.elim hno fun e => he e.symm
      ((apply so_ex; (apply ex_load1r; (exact ev_); assumption; (exact mem_); (simpa using hA)); exact rfl); (apply so_ex; (apply ex_move; (exact ev_)); exact rfl); (apply so_ex; (apply ex_eql_f; (exact ev_); (exact ev_); (first | assumption | omega)); exact rfl); apply so_nil; apply nm_then; (apply sc_cond_false; (exact ev_)); (apply sc_skip); (apply nm_block); (apply nm_then); (apply sc_region); (apply so_ex; (apply ex_move; (exact ev_)); exact rfl); (apply so_ex; (apply ex_add; (exact ev_); ((exact Ev.const)); (first | assumption | (apply wrap_in; unfold InI; omega) | exact rfl)); exact rfl); (apply so_ex; (apply ex_assign; (exact ev_)); exact rfl); (apply so_nil); (apply nm_then))
      exact ⟨_, by rw [hk]; omega, i + 1, by omega, rfl, hno2, (by apply Ev.at; (exact ev_)), (by apply Ev.at; (exact ev_)), (by apply Ev.at; (exact ev_)), (by apply held; (exact sel_); (exact appb_))⟩
  · rename_i hge
    have hx : (Value.bool (decide (n ∈ xs))) = .bool false := by
      have e : i = xs.length := by omega
      subst e
      rw [List.take_length] at hno
      simp [hno]
    rw [hx]
    (apply so_nil; apply nm_then; (apply sc_cond_false; (exact ev_)); (apply sc_exit); (apply et_then); (apply et_then); (apply et_hit); (apply nm_then); apply sc_seq; apply sc_region; (apply so_ex; (apply ex_assign; ((exact Ev.const))); exact rfl); apply so_nil; apply nm_then; (apply sc_ret); (apply ret_ok; (focus ((apply Res.tmp; (exact ev_)); exact Res.nil)); (exact ⟨rfl, rfl⟩); (exact sel_); (exact appb_)))
def rhitT (k : Lk) (t : Tgt) : Bool := mayT t && refCoversT k.on t
def rhits (k : Lk) (ts : List Tgt) : Bool := ts.any fun t => rhitT k t
theorem rhits_take {k : Lk} {ts : List Tgt} {j : Nat} (h : j < ts.length) : rhits k (ts.take (j + 1)) = (rhits k (ts.take j) || rhitT k ts[j]) := by
  unfold rhits
  rw [List.take_add_one, List.getElem?_eq_getElem h, List.any_append]
  simp
/-- the transactions that hold one of the targets, in order, as the reference finds them -/
structure RHold (S : List Lk) (ts : List Tgt) (zs : List Int) : Prop where
  nodup : zs.Nodup
  sorted : zs.Pairwise (· ≤ ·)
  mem : ∀ x, x ∈ zs ↔ ∃ k ∈ S, k.tx = x ∧ rhits k ts = true
theorem putL_mem {xs : List Int} {n x : Int} : x ∈ putL xs n ↔ x = n ∨ x ∈ xs := by
  rw [(putL_perm xs n).mem_iff, List.mem_cons]
theorem putL_nodup {xs : List Int} {n : Int} (h : xs.Nodup) (hn : n ∉ xs) : (putL xs n).Nodup := (putL_perm xs n).nodup_iff.2 (List.nodup_cons.2 ⟨hn, h⟩)
theorem refHolders_tri {r cap tb tcap : Nat} {most : Int} {o : Option Addr} {S : List Lk} {ts : List Tgt} {T : TypeId} {P0 : List Blk} (hP : LksIn o S P0) (hS : S.length ≤ 4000) (hT : ts.length ≤ 1000000) :
    Tri Try.prog 39 #[.pointer (some ⟨r, 0, none⟩), .slice (some ⟨tb, 0, none⟩) ts.length tcap] ((tb, Obj.cells (tcells ts).toArray T) :: (r, Obj.cells [Value.int .i64 most, .slice o S.length cap].toArray 100) :: P0) (fun v L =>
      ∃ (zs : List Int) (g gcap : Nat) (junk : List Value), RHold S ts zs ∧ v = .slice (some ⟨g, 0, none⟩) zs.length gcap ∧ L = (g, Obj.cells (zs.map (Value.int .i64) ++ junk).toArray 3) :: (tb, Obj.cells (tcells ts).toArray T) :: (r, Obj.cells [Value.int .i64 most, .slice o S.length cap].toArray 100) :: P0) := by
  have f_mixed := mixed; have f_by102 := by102; have f_by23 := by23; have f_by3 := by3; have f_en16 := en16; have f_en17 := en17; have f_en53 := en53; have f_en61 := en61; have f_fo100_1 := fo100_1; have f_fo102_0 := fo102_0; have f_fo102_1 := fo102_1; have f_ty102 := ty102; have f_ty23 := ty23; have f_ty3 := ty3; have f_ty46 := ty46; have f_ty49 := ty49; have f_ty98 := ty98; have f_un_46 : Und Try.prog 46 _ := ⟨Try.underlying46⟩; have f_un_49 : Und Try.prog 49 _ := ⟨Try.underlying49⟩; have f_un_98 : Und Try.prog 98 _ := ⟨Try.underlying98⟩; have f_zero102 := zero102; have f_zero23 := zero23; have f_zero3 := zero3; have f_zv102 := zv102; have f_zv23 := zv23; have f_zv3 := zv3
  refine tri_intro (args := [_, _]) Try.func39 rfl Try.ntmps39 rfl (rs := _) rfl rfl fun E R => ?_
  simp only [fr, List.cons_append, List.nil_append]
  (apply sc_seq; apply sc_region; (apply so_ex; (apply ex_assign; ((exact Ev.const))); exact rfl); apply so_nil; apply nm_then; apply sc_seq; apply sc_region; (apply so_buildS; (focus (exact EvP.nil)); assumption; assumption; assumption; (focus (repeat (first | exact SeqP.nil | (apply SeqP.cons; exact rfl; exact rfl) | exact App.nil | apply App.cons))); exact rfl; exact rfl; exact rfl; intro _); (apply so_ex; (apply ex_assign; (exact ev_)); exact rfl); apply so_nil; apply nm_then; (apply sc_seq); apply sc_seq; apply sc_region; (apply so_ex; (apply ex_assign; ((exact Ev.const))); exact rfl); apply so_nil; apply nm_then; (apply sc_block))
  rename_i gb
  refine sc_loop (fun q f L => ∃ (j g gcap : Nat) (zs : List Int) (junk : List Value), j ≤ S.length ∧ q = S.length - j ∧ zs.Nodup ∧ zs.Pairwise (· ≤ ·) ∧ (∀ x, x ∈ zs ↔ ∃ k ∈ S.take j, k.tx = x ∧ rhits k ts = true) ∧ At f 0 (.pointer (some ⟨r, 0, none⟩)) ∧ At f 1 (.slice (some ⟨tb, 0, none⟩) ts.length tcap) ∧ At f 5 (.slice (some ⟨g, 0, none⟩) zs.length gcap) ∧ At f 6 (.int .i64 (j : Int)) ∧
      Held L ([(g, Obj.cells (zs.map (Value.int .i64) ++ junk).toArray 3), (tb, Obj.cells (tcells ts).toArray T), (r, Obj.cells [Value.int .i64 most, .slice o S.length cap].toArray 100)] ++ P0) R)
    _ ⟨0, gb, 0, [], [], by omega, rfl, by simp, by simp, by simp, (by apply Ev.at; (exact ev_)), (by apply Ev.at; (exact ev_)), (by apply Ev.at; (exact ev_)), (by apply Ev.at; (exact ev_)), (by apply held; (exact sel_); (exact appb_))⟩ ?_
  rintro q f L ⟨j, g, gcap, zs, junk, hj, hq, hzn, hzs, hzm, a0, a1, a5, a6, ⟨G, hG⟩⟩
  refine sc_perm hG ?_
  simp only [List.cons_append, List.nil_append]
  ((apply sc_seq); apply sc_seq; apply sc_region; (apply so_ex; (apply ex_move; (exact ev_)); exact rfl); (apply so_ex; (apply ex_move; (exact ev_)); exact rfl); (apply so_ex; (apply ex_nilCheck; (exact ev_)); exact rfl); (apply so_ex; (apply ex_fieldAddr; (exact ev_); assumption); exact rfl); (apply so_ex; (apply ex_load1; (exact ev_); assumption; (exact mem_); (exact nth_)); exact rfl); (apply so_ex; (apply ex_len_slice; (exact ev_); assumption); exact rfl); (apply so_split; (apply ex_lss; (exact ev_); (exact ev_)); exact rfl; refine ⟨fun _ => ?_, fun _ => ?_⟩); apply so_nil; apply nm_then; (apply sc_cond_true; (exact ev_)); (apply sc_skip); (apply nm_then); (apply sc_seq); (apply sc_block); apply sc_seq; apply sc_region; (apply so_ex; (apply ex_assign; ((exact Ev.const))); exact rfl); apply so_nil; apply nm_then; (apply sc_block))
  · rename_i hltj
    have hjl : j < S.length := by omega
    obtain ⟨g2, junk2, ho, hgm, hld⟩ := lks_get hP hjl
    have htk : S.take (j + 1) = S.take j ++ [S[j]] := by rw [List.take_add_one, List.getElem?_eq_getElem hjl]; rfl
    generalize S[j] = k at hld htk
    obtain ⟨ktx, ⟨kd, tb', pg, sl⟩⟩ := k
    have h0 : (lcells S ++ junk2)[0 + j * 5 + 0]? = some (.int .i64 ktx) := hld 0 (by omega)
    have h4 : ∀ q, q < [Value.int .i64 kd, .int .i64 tb', .int .i64 pg, .int .i64 sl].length → (lcells S ++ junk2)[0 + j * 5 + 1 + q]? = [Value.int .i64 kd, .int .i64 tb', .int .i64 pg, .int .i64 sl][q]? := fun q hq => by
      match q, hq with
      | 0, _ => exact hld 1 (by omega)
      | 1, _ => exact hld 2 (by omega)
      | 2, _ => exact hld 3 (by omega)
      | 3, _ => exact hld 4 (by omega)
    clear hld
    subst ho
    refine sc_loop (fun q2 f L => ∃ (i g gcap : Nat) (zs : List Int) (junk : List Value), i ≤ ts.length ∧ q2 = ts.length - i ∧ zs.Nodup ∧ zs.Pairwise (· ≤ ·) ∧ (∀ x, x ∈ zs ↔ (∃ k ∈ S.take j, k.tx = x ∧ rhits k ts = true) ∨ (ktx = x ∧ rhits ⟨ktx, ⟨kd, tb', pg, sl⟩⟩ (ts.take i) = true)) ∧ At f 0 (.pointer (some ⟨r, 0, none⟩)) ∧ At f 1 (.slice (some ⟨tb, 0, none⟩) ts.length tcap) ∧ At f 5 (.slice (some ⟨g, 0, none⟩) zs.length gcap) ∧ At f 6 (.int .i64 (j : Int)) ∧ At f 7 (.int .i64 (i : Int)) ∧
        Held L ([(g, Obj.cells (zs.map (Value.int .i64) ++ junk).toArray 3), (tb, Obj.cells (tcells ts).toArray T), (r, Obj.cells [Value.int .i64 most, .slice (some ⟨g2, 0, none⟩) S.length cap].toArray 100)] ++ P0) R)
      _ ⟨0, g, gcap, zs, junk, by omega, rfl, hzn, hzs, fun x => by rw [hzm x]; simp [rhits], (by apply Ev.at; (exact ev_)), (by apply Ev.at; (exact ev_)), (by apply Ev.at; (exact ev_)), (by apply Ev.at; (exact ev_)), (by apply Ev.at; (exact ev_)), (by apply held; (exact sel_); (exact appb_))⟩ ?_
    clear hzn hzs hzm hG a0 a1 a5 a6
    rintro q2 f L ⟨i, g, gcap, zs, junk, hi, hq2, hzn, hzs, hzm, a0, a1, a5, a6, a7, ⟨G, hG⟩⟩
    refine sc_perm hG ?_
    simp only [List.cons_append, List.nil_append]
    ((apply sc_seq); (apply sc_seq); ((fail_if_success (apply sc_region (id := 8))); apply sc_region); (apply so_ex; (apply ex_move; (exact ev_)); exact rfl); (apply so_ex; (apply ex_move; (exact ev_)); exact rfl); (apply so_ex; (apply ex_len_slice; (exact ev_); assumption); exact rfl); (apply so_split; (apply ex_lss; (exact ev_); (exact ev_)); exact rfl; refine ⟨fun _ => ?_, fun _ => ?_⟩); apply so_nil; apply nm_then; (apply sc_cond_true; (exact ev_)); (apply sc_skip); (apply nm_then); (apply sc_seq); (apply sc_block); (apply sc_seq))
    · rename_i hlti
      have hil : i < ts.length := by omega
      have hlt : ∀ q, q < [Value.int .i64 ts[i].kind, .int .i64 ts[i].table, .int .i64 ts[i].page, .int .i64 ts[i].slot].length → (tcells ts)[0 + i * 4 + q]? = [Value.int .i64 ts[i].kind, .int .i64 ts[i].table, .int .i64 ts[i].page, .int .i64 ts[i].slot][q]? := fun q hq => by
        rw [Nat.zero_add]
        exact tcells_get hil q hq
      have hrt := rhits_take (k := ⟨ktx, ⟨kd, tb', pg, sl⟩⟩) hil
      generalize ts[i] = t at hlt hrt
      obtain ⟨a, b, u, e⟩ := t
      simp only at hlt
      have hmt := refMay_tri a b u e
      have hct := refCovers_tri kd tb' pg sl a b u e
      have hzl : zs.length ≤ S.length := by
        have := nodup_len zs (S.map (·.tx)) hzn fun x hx => by
          rcases (hzm x).1 hx with ⟨k, hk, rfl, _⟩ | ⟨rfl, _⟩
          · exact List.mem_map.2 ⟨k, List.mem_of_mem_take hk, rfl⟩
          · have : (⟨ktx, ⟨kd, tb', pg, sl⟩⟩ : Lk) ∈ S.take (j + 1) := by rw [htk]; simp
            exact List.mem_map.2 ⟨_, List.mem_of_mem_take this, rfl⟩
        simpa using this
      have hin : TriQ Try.prog 61 #[.slice (some ⟨g, 0, none⟩) zs.length gcap, .int .i64 ktx] [(g, Obj.cells (zs.map (Value.int .i64) ++ junk).toArray 3)] (.bool (decide (ktx ∈ zs))) := in_tri (by omega) ktx
      unfold rhitT at hrt
      cases hm : mayT ⟨a, b, u, e⟩ with
      | false =>
        rw [hm] at hmt hrt
        rw [Bool.false_and, Bool.or_false] at hrt
        ((apply sc_quiet (id := 8); assumption; kernel_rfl); (apply sq_ex; (apply ex_move; (exact ev_)); exact rfl); (apply sq_ex; (apply ex_move; (exact ev_)); exact rfl); (apply sq_ex; (apply ex_indexAddr; (exact ev_); (exact ev_); assumption; assumption; (first | exact rfl | exact (rfl : (0:Int) = ((0:Nat):Int)) | exact (rfl : (1:Int) = ((1:Nat):Int)) | exact (rfl : (2:Int) = ((2:Nat):Int)) | assumption); (first | assumption | omega | decide)); exact rfl); (apply sq_ex; (first | (apply ex_load1r; (focus (fail)); assumption; (repeat (first | exact List.mem_append_left _ hgm | apply List.Mem.tail)); exact h0) | (apply ex_loadNr (r := [Value.int .i64 kd, .int .i64 tb', .int .i64 pg, .int .i64 sl]); (focus (fail)); assumption; (repeat (first | exact List.mem_append_left _ hgm | apply List.Mem.tail)); exact rfl; exact h4) | (apply ex_loadNr (r := [Value.int .i64 a, .int .i64 b, .int .i64 u, .int .i64 e]); (exact ev_); assumption; (exact mem_); exact rfl; exact hlt)); exact rfl); (apply sq_call; (exact Ev.func); (focus ((apply EvL.cons; (exact ev_)); exact EvL.nil)); (focus (repeat (first | exact App.nil | apply App.cons))); assumption; exact hmt; (exact sel_); exact rfl); (apply sq_ex; (apply ex_move; (exact ev_)); exact rfl); (apply sq_skip; exact rfl; (exact ev_); exact rfl; exact rfl; exact rfl); (apply sq_skip; exact rfl; (exact ev_); exact rfl; exact rfl; exact rfl); (apply sq_skip; exact rfl; (exact ev_); exact rfl; exact rfl; exact rfl); (apply sq_skip; exact rfl; (exact ev_); exact rfl; exact rfl; exact rfl); (apply sq_skip; exact rfl; (exact ev_); exact rfl; exact rfl; exact rfl); (apply sq_skip; exact rfl; (exact ev_); exact rfl; exact rfl; exact rfl); (apply sq_skip; exact rfl; (exact ev_); exact rfl; exact rfl; exact rfl); (apply sq_skip; exact rfl; (exact ev_); exact rfl; exact rfl; exact rfl); (apply sq_skip; exact rfl; (exact ev_); exact rfl; exact rfl; exact rfl); (apply sq_skip; exact rfl; (exact ev_); exact rfl; exact rfl; exact rfl); (apply sq_skip; exact rfl; (exact ev_); exact rfl; exact rfl; exact rfl); (apply sq_skip; exact rfl; (exact ev_); exact rfl; exact rfl; exact rfl); (apply sq_skip; exact rfl; (exact ev_); exact rfl; exact rfl; exact rfl); (apply sq_ex; (apply ex_pick_f; (exact ev_); ((exact Ev.const))); exact rfl); (apply sq_ex; (apply ex_move; (exact ev_)); exact rfl); (apply sq_skip; exact rfl; (exact ev_); exact rfl; exact rfl; exact rfl); (apply sq_skip; exact rfl; (exact ev_); exact rfl; exact rfl; exact rfl); (apply sq_skip; exact rfl; (exact ev_); exact rfl; exact rfl; exact rfl); (apply sq_skip; exact rfl; (exact ev_); exact rfl; exact rfl; exact rfl); (apply sq_skip; exact rfl; (exact ev_); exact rfl; exact rfl; exact rfl); (apply sq_skip; exact rfl; (exact ev_); exact rfl; exact rfl; exact rfl); (apply sq_skip; exact rfl; (exact ev_); exact rfl; exact rfl; exact rfl); (apply sq_skip; exact rfl; (exact ev_); exact rfl; exact rfl; exact rfl); (apply sq_skip; exact rfl; (exact ev_); exact rfl; exact rfl; exact rfl); (apply sq_skip; exact rfl; (exact ev_); exact rfl; exact rfl; exact rfl); (apply sq_skip; exact rfl; (exact ev_); exact rfl; exact rfl; exact rfl); (apply sq_ex; (apply ex_pick_f; (exact ev_); ((exact Ev.const))); exact rfl); (apply sq_nil); (apply nm_then); (apply sc_cond_false; (exact ev_)); (apply sc_skip); (apply nm_block); (apply nm_then); (apply sc_region); (apply so_ex; (apply ex_move; (exact ev_)); exact rfl); (apply so_ex; (apply ex_add; (exact ev_); ((exact Ev.const)); (first | assumption | (apply wrap_in; unfold InI; omega) | exact rfl)); exact rfl); (apply so_ex; (apply ex_assign; (exact ev_)); exact rfl); (apply so_nil); (apply nm_then))
        exact ⟨_, by rw [hq2]; omega, i + 1, g, gcap, zs, junk, by omega, rfl, hzn, hzs, fun x => by rw [hzm x, hrt], (by apply Ev.at; (exact ev_)), (by apply Ev.at; (exact ev_)), (by apply Ev.at; (exact ev_)), (by apply Ev.at; (exact ev_)), (by apply Ev.at; (exact ev_)), (by apply held; (exact sel_); (exact appb_))⟩
      | true =>
        rw [hm] at hmt hrt
        rw [Bool.true_and] at hrt
        cases hc : refCoversT ⟨kd, tb', pg, sl⟩ ⟨a, b, u, e⟩ with
        | false =>
          rw [hc] at hct hrt
          rw [Bool.or_false] at hrt
          ((apply sc_quiet (id := 8); assumption; kernel_rfl); (apply sq_ex; (apply ex_move; (exact ev_)); exact rfl); (apply sq_ex; (apply ex_move; (exact ev_)); exact rfl); (apply sq_ex; (apply ex_indexAddr; (exact ev_); (exact ev_); assumption; assumption; (first | exact rfl | exact (rfl : (0:Int) = ((0:Nat):Int)) | exact (rfl : (1:Int) = ((1:Nat):Int)) | exact (rfl : (2:Int) = ((2:Nat):Int)) | assumption); (first | assumption | omega | decide)); exact rfl); (apply sq_ex; (first | (apply ex_load1r; (focus (fail)); assumption; (repeat (first | exact List.mem_append_left _ hgm | apply List.Mem.tail)); exact h0) | (apply ex_loadNr (r := [Value.int .i64 kd, .int .i64 tb', .int .i64 pg, .int .i64 sl]); (focus (fail)); assumption; (repeat (first | exact List.mem_append_left _ hgm | apply List.Mem.tail)); exact rfl; exact h4) | (apply ex_loadNr (r := [Value.int .i64 a, .int .i64 b, .int .i64 u, .int .i64 e]); (exact ev_); assumption; (exact mem_); exact rfl; exact hlt)); exact rfl); (apply sq_call; (exact Ev.func); (focus ((apply EvL.cons; (exact ev_)); exact EvL.nil)); (focus (repeat (first | exact App.nil | apply App.cons))); assumption; exact hmt; (exact sel_); exact rfl); (apply sq_ex; (apply ex_move; (exact ev_)); exact rfl); (apply sq_want; exact rfl; (exact ev_); exact rfl; exact rfl); (apply sq_ex; (apply ex_move; (exact ev_)); exact rfl); (apply sq_want; exact rfl; (exact ev_); exact rfl; exact rfl); (apply sq_ex; (apply ex_nilCheck; (exact ev_)); exact rfl); (apply sq_want; exact rfl; (exact ev_); exact rfl; exact rfl); (apply sq_ex; (apply ex_fieldAddr; (exact ev_); assumption); exact rfl); (apply sq_want; exact rfl; (exact ev_); exact rfl; exact rfl); (apply sq_ex; (apply ex_load1; (exact ev_); assumption; (exact mem_); (exact nth_)); exact rfl); (apply sq_want; exact rfl; (exact ev_); exact rfl; exact rfl); (apply sq_ex; (apply ex_move; (exact ev_)); exact rfl); (apply sq_want; exact rfl; (exact ev_); exact rfl; exact rfl); (apply sq_ex; (apply ex_indexAddr; (exact ev_); (exact ev_); assumption; assumption; (first | exact rfl | exact (rfl : (0:Int) = ((0:Nat):Int)) | exact (rfl : (1:Int) = ((1:Nat):Int)) | exact (rfl : (2:Int) = ((2:Nat):Int)) | assumption); (first | assumption | omega | decide)); exact rfl); (apply sq_want; exact rfl; (exact ev_); exact rfl; exact rfl); (apply sq_ex; (apply ex_fieldAddr; (exact ev_); assumption); exact rfl); (apply sq_want; exact rfl; (exact ev_); exact rfl; exact rfl); (apply sq_ex; (first | (apply ex_load1r; (focus (fail)); assumption; (repeat (first | exact List.mem_append_left _ hgm | apply List.Mem.tail)); exact h0) | (apply ex_loadNr (r := [Value.int .i64 kd, .int .i64 tb', .int .i64 pg, .int .i64 sl]); (exact ev_); assumption; (repeat (first | exact List.mem_append_left _ hgm | apply List.Mem.tail)); exact rfl; exact h4) | (apply ex_loadNr (r := [Value.int .i64 a, .int .i64 b, .int .i64 u, .int .i64 e]); (focus (fail)); assumption; (exact mem_); exact rfl; exact hlt)); exact rfl); (apply sq_want; exact rfl; (exact ev_); exact rfl; exact rfl); (apply sq_ex; (apply ex_move; (exact ev_)); exact rfl); (apply sq_want; exact rfl; (exact ev_); exact rfl; exact rfl); (apply sq_ex; (apply ex_move; (exact ev_)); exact rfl); (apply sq_want; exact rfl; (exact ev_); exact rfl; exact rfl); (apply sq_ex; (apply ex_indexAddr; (exact ev_); (exact ev_); assumption; assumption; (first | exact rfl | exact (rfl : (0:Int) = ((0:Nat):Int)) | exact (rfl : (1:Int) = ((1:Nat):Int)) | exact (rfl : (2:Int) = ((2:Nat):Int)) | assumption); (first | assumption | omega | decide)); exact rfl); (apply sq_want; exact rfl; (exact ev_); exact rfl; exact rfl); (apply sq_ex; (first | (apply ex_load1r; (focus (fail)); assumption; (repeat (first | exact List.mem_append_left _ hgm | apply List.Mem.tail)); exact h0) | (apply ex_loadNr (r := [Value.int .i64 kd, .int .i64 tb', .int .i64 pg, .int .i64 sl]); (focus (fail)); assumption; (repeat (first | exact List.mem_append_left _ hgm | apply List.Mem.tail)); exact rfl; exact h4) | (apply ex_loadNr (r := [Value.int .i64 a, .int .i64 b, .int .i64 u, .int .i64 e]); (exact ev_); assumption; (exact mem_); exact rfl; exact hlt)); exact rfl); (apply sq_want; exact rfl; (exact ev_); exact rfl; exact rfl); (apply sq_call; (exact Ev.func); (focus ((apply EvL.cons; (exact ev_)); (apply EvL.cons; (exact ev_)); exact EvL.nil)); (focus (repeat (first | exact App.nil | apply App.cons))); assumption; exact hct; (exact sel_); exact rfl); (apply sq_ex; (apply ex_pick_t; (exact ev_); (exact ev_)); exact rfl); (apply sq_ex; (apply ex_move; (exact ev_)); exact rfl); (apply sq_skip; exact rfl; (exact ev_); exact rfl; exact rfl; exact rfl); (apply sq_skip; exact rfl; (exact ev_); exact rfl; exact rfl; exact rfl); (apply sq_skip; exact rfl; (exact ev_); exact rfl; exact rfl; exact rfl); (apply sq_skip; exact rfl; (exact ev_); exact rfl; exact rfl; exact rfl); (apply sq_skip; exact rfl; (exact ev_); exact rfl; exact rfl; exact rfl); (apply sq_skip; exact rfl; (exact ev_); exact rfl; exact rfl; exact rfl); (apply sq_skip; exact rfl; (exact ev_); exact rfl; exact rfl; exact rfl); (apply sq_skip; exact rfl; (exact ev_); exact rfl; exact rfl; exact rfl); (apply sq_skip; exact rfl; (exact ev_); exact rfl; exact rfl; exact rfl); (apply sq_skip; exact rfl; (exact ev_); exact rfl; exact rfl; exact rfl); (apply sq_skip; exact rfl; (exact ev_); exact rfl; exact rfl; exact rfl); (apply sq_ex; (apply ex_pick_f; (exact ev_); ((exact Ev.const))); exact rfl); (apply sq_nil); (apply nm_then); (apply sc_cond_false; (exact ev_)); (apply sc_skip); (apply nm_block); (apply nm_then); (apply sc_region); (apply so_ex; (apply ex_move; (exact ev_)); exact rfl); (apply so_ex; (apply ex_add; (exact ev_); ((exact Ev.const)); (first | assumption | (apply wrap_in; unfold InI; omega) | exact rfl)); exact rfl); (apply so_ex; (apply ex_assign; (exact ev_)); exact rfl); (apply so_nil); (apply nm_then))
          exact ⟨_, by rw [hq2]; omega, i + 1, g, gcap, zs, junk, by omega, rfl, hzn, hzs, fun x => by rw [hzm x, hrt], (by apply Ev.at; (exact ev_)), (by apply Ev.at; (exact ev_)), (by apply Ev.at; (exact ev_)), (by apply Ev.at; (exact ev_)), (by apply Ev.at; (exact ev_)), (by apply held; (exact sel_); (exact appb_))⟩
        | true =>
          rw [hc] at hct hrt
          rw [Bool.or_true] at hrt
          by_cases hx : ktx ∈ zs
          · rw [decide_eq_true hx] at hin
            ((apply sc_quiet (id := 8); assumption; kernel_rfl); (apply sq_ex; (apply ex_move; (exact ev_)); exact rfl); (apply sq_ex; (apply ex_move; (exact ev_)); exact rfl); (apply sq_ex; (apply ex_indexAddr; (exact ev_); (exact ev_); assumption; assumption; (first | exact rfl | exact (rfl : (0:Int) = ((0:Nat):Int)) | exact (rfl : (1:Int) = ((1:Nat):Int)) | exact (rfl : (2:Int) = ((2:Nat):Int)) | assumption); (first | assumption | omega | decide)); exact rfl); (apply sq_ex; (first | (apply ex_load1r; (focus (fail)); assumption; (repeat (first | exact List.mem_append_left _ hgm | apply List.Mem.tail)); exact h0) | (apply ex_loadNr (r := [Value.int .i64 kd, .int .i64 tb', .int .i64 pg, .int .i64 sl]); (focus (fail)); assumption; (repeat (first | exact List.mem_append_left _ hgm | apply List.Mem.tail)); exact rfl; exact h4) | (apply ex_loadNr (r := [Value.int .i64 a, .int .i64 b, .int .i64 u, .int .i64 e]); (exact ev_); assumption; (exact mem_); exact rfl; exact hlt)); exact rfl); (apply sq_call; (exact Ev.func); (focus ((apply EvL.cons; (exact ev_)); exact EvL.nil)); (focus (repeat (first | exact App.nil | apply App.cons))); assumption; exact hmt; (exact sel_); exact rfl); (apply sq_ex; (apply ex_move; (exact ev_)); exact rfl); (apply sq_want; exact rfl; (exact ev_); exact rfl; exact rfl); (apply sq_ex; (apply ex_move; (exact ev_)); exact rfl); (apply sq_want; exact rfl; (exact ev_); exact rfl; exact rfl); (apply sq_ex; (apply ex_nilCheck; (exact ev_)); exact rfl); (apply sq_want; exact rfl; (exact ev_); exact rfl; exact rfl); (apply sq_ex; (apply ex_fieldAddr; (exact ev_); assumption); exact rfl); (apply sq_want; exact rfl; (exact ev_); exact rfl; exact rfl); (apply sq_ex; (apply ex_load1; (exact ev_); assumption; (exact mem_); (exact nth_)); exact rfl); (apply sq_want; exact rfl; (exact ev_); exact rfl; exact rfl); (apply sq_ex; (apply ex_move; (exact ev_)); exact rfl); (apply sq_want; exact rfl; (exact ev_); exact rfl; exact rfl); (apply sq_ex; (apply ex_indexAddr; (exact ev_); (exact ev_); assumption; assumption; (first | exact rfl | exact (rfl : (0:Int) = ((0:Nat):Int)) | exact (rfl : (1:Int) = ((1:Nat):Int)) | exact (rfl : (2:Int) = ((2:Nat):Int)) | assumption); (first | assumption | omega | decide)); exact rfl); (apply sq_want; exact rfl; (exact ev_); exact rfl; exact rfl); (apply sq_ex; (apply ex_fieldAddr; (exact ev_); assumption); exact rfl); (apply sq_want; exact rfl; (exact ev_); exact rfl; exact rfl); (apply sq_ex; (first | (apply ex_load1r; (focus (fail)); assumption; (repeat (first | exact List.mem_append_left _ hgm | apply List.Mem.tail)); exact h0) | (apply ex_loadNr (r := [Value.int .i64 kd, .int .i64 tb', .int .i64 pg, .int .i64 sl]); (exact ev_); assumption; (repeat (first | exact List.mem_append_left _ hgm | apply List.Mem.tail)); exact rfl; exact h4) | (apply ex_loadNr (r := [Value.int .i64 a, .int .i64 b, .int .i64 u, .int .i64 e]); (focus (fail)); assumption; (exact mem_); exact rfl; exact hlt)); exact rfl); (apply sq_want; exact rfl; (exact ev_); exact rfl; exact rfl); (apply sq_ex; (apply ex_move; (exact ev_)); exact rfl); (apply sq_want; exact rfl; (exact ev_); exact rfl; exact rfl); (apply sq_ex; (apply ex_move; (exact ev_)); exact rfl); (apply sq_want; exact rfl; (exact ev_); exact rfl; exact rfl); (apply sq_ex; (apply ex_indexAddr; (exact ev_); (exact ev_); assumption; assumption; (first | exact rfl | exact (rfl : (0:Int) = ((0:Nat):Int)) | exact (rfl : (1:Int) = ((1:Nat):Int)) | exact (rfl : (2:Int) = ((2:Nat):Int)) | assumption); (first | assumption | omega | decide)); exact rfl); (apply sq_want; exact rfl; (exact ev_); exact rfl; exact rfl); (apply sq_ex; (first | (apply ex_load1r; (focus (fail)); assumption; (repeat (first | exact List.mem_append_left _ hgm | apply List.Mem.tail)); exact h0) | (apply ex_loadNr (r := [Value.int .i64 kd, .int .i64 tb', .int .i64 pg, .int .i64 sl]); (focus (fail)); assumption; (repeat (first | exact List.mem_append_left _ hgm | apply List.Mem.tail)); exact rfl; exact h4) | (apply ex_loadNr (r := [Value.int .i64 a, .int .i64 b, .int .i64 u, .int .i64 e]); (exact ev_); assumption; (exact mem_); exact rfl; exact hlt)); exact rfl); (apply sq_want; exact rfl; (exact ev_); exact rfl; exact rfl); (apply sq_call; (exact Ev.func); (focus ((apply EvL.cons; (exact ev_)); (apply EvL.cons; (exact ev_)); exact EvL.nil)); (focus (repeat (first | exact App.nil | apply App.cons))); assumption; exact hct; (exact sel_); exact rfl); (apply sq_ex; (apply ex_pick_t; (exact ev_); (exact ev_)); exact rfl); (apply sq_ex; (apply ex_move; (exact ev_)); exact rfl); (apply sq_want; exact rfl; (exact ev_); exact rfl; exact rfl); (apply sq_ex; (apply ex_move; (exact ev_)); exact rfl); (apply sq_want; exact rfl; (exact ev_); exact rfl; exact rfl); (apply sq_ex; (apply ex_move; (exact ev_)); exact rfl); (apply sq_want; exact rfl; (exact ev_); exact rfl; exact rfl); (apply sq_ex; (apply ex_nilCheck; (exact ev_)); exact rfl); (apply sq_want; exact rfl; (exact ev_); exact rfl; exact rfl); (apply sq_ex; (apply ex_fieldAddr; (exact ev_); assumption); exact rfl); (apply sq_want; exact rfl; (exact ev_); exact rfl; exact rfl); (apply sq_ex; (apply ex_load1; (exact ev_); assumption; (exact mem_); (exact nth_)); exact rfl); (apply sq_want; exact rfl; (exact ev_); exact rfl; exact rfl); (apply sq_ex; (apply ex_move; (exact ev_)); exact rfl); (apply sq_want; exact rfl; (exact ev_); exact rfl; exact rfl); (apply sq_ex; (apply ex_indexAddr; (exact ev_); (exact ev_); assumption; assumption; (first | exact rfl | exact (rfl : (0:Int) = ((0:Nat):Int)) | exact (rfl : (1:Int) = ((1:Nat):Int)) | exact (rfl : (2:Int) = ((2:Nat):Int)) | assumption); (first | assumption | omega | decide)); exact rfl); (apply sq_want; exact rfl; (exact ev_); exact rfl; exact rfl); (apply sq_ex; (apply ex_fieldAddr; (exact ev_); assumption); exact rfl); (apply sq_want; exact rfl; (exact ev_); exact rfl; exact rfl); (apply sq_ex; (first | (apply ex_load1r; (exact ev_); assumption; (repeat (first | exact List.mem_append_left _ hgm | apply List.Mem.tail)); exact h0) | (apply ex_loadNr (r := [Value.int .i64 kd, .int .i64 tb', .int .i64 pg, .int .i64 sl]); (focus (fail)); assumption; (repeat (first | exact List.mem_append_left _ hgm | apply List.Mem.tail)); exact rfl; exact h4) | (apply ex_loadNr (r := [Value.int .i64 a, .int .i64 b, .int .i64 u, .int .i64 e]); (focus (fail)); assumption; (exact mem_); exact rfl; exact hlt)); exact rfl); (apply sq_want; exact rfl; (exact ev_); exact rfl; exact rfl); (apply sq_call; (exact Ev.func); (focus ((apply EvL.cons; (exact ev_)); (apply EvL.cons; (exact ev_)); exact EvL.nil)); (focus (repeat (first | exact App.nil | apply App.cons))); assumption; exact hin; (exact sel_); exact rfl); (apply sq_want; exact rfl; (exact ev_); exact rfl; exact rfl); (apply sq_ex; (apply ex_not; (exact ev_)); exact rfl); (apply sq_ex; (apply ex_pick_t; (exact ev_); (exact ev_)); exact rfl); (apply sq_nil); (apply nm_then); (apply sc_cond_false; (exact ev_)); (apply sc_skip); (apply nm_block); (apply nm_then); (apply sc_region); (apply so_ex; (apply ex_move; (exact ev_)); exact rfl); (apply so_ex; (apply ex_add; (exact ev_); ((exact Ev.const)); (first | assumption | (apply wrap_in; unfold InI; omega) | exact rfl)); exact rfl); (apply so_ex; (apply ex_assign; (exact ev_)); exact rfl); (apply so_nil); (apply nm_then))
            refine ⟨_, by rw [hq2]; omega, i + 1, g, gcap, zs, junk, by omega, rfl, hzn, hzs, fun x => ?_, (by apply Ev.at; (exact ev_)), (by apply Ev.at; (exact ev_)), (by apply Ev.at; (exact ev_)), (by apply Ev.at; (exact ev_)), (by apply Ev.at; (exact ev_)), (by apply held; (exact sel_); (exact appb_))⟩
            rw [hrt]
            constructor
            · intro h
              rcases (hzm x).1 h with h | ⟨h, _⟩
              · exact .inl h
              · exact .inr ⟨h, rfl⟩
            · rintro (h | ⟨h, _⟩)
              · exact (hzm x).2 (.inl h)
              · rw [← h]; exact hx
          · rw [decide_eq_false hx] at hin
            ((apply sc_quiet (id := 8); assumption; kernel_rfl); (apply sq_ex; (apply ex_move; (exact ev_)); exact rfl); (apply sq_ex; (apply ex_move; (exact ev_)); exact rfl); (apply sq_ex; (apply ex_indexAddr; (exact ev_); (exact ev_); assumption; assumption; (first | exact rfl | exact (rfl : (0:Int) = ((0:Nat):Int)) | exact (rfl : (1:Int) = ((1:Nat):Int)) | exact (rfl : (2:Int) = ((2:Nat):Int)) | assumption); (first | assumption | omega | decide)); exact rfl); (apply sq_ex; (first | (apply ex_load1r; (focus (fail)); assumption; (repeat (first | exact List.mem_append_left _ hgm | apply List.Mem.tail)); exact h0) | (apply ex_loadNr (r := [Value.int .i64 kd, .int .i64 tb', .int .i64 pg, .int .i64 sl]); (focus (fail)); assumption; (repeat (first | exact List.mem_append_left _ hgm | apply List.Mem.tail)); exact rfl; exact h4) | (apply ex_loadNr (r := [Value.int .i64 a, .int .i64 b, .int .i64 u, .int .i64 e]); (exact ev_); assumption; (exact mem_); exact rfl; exact hlt)); exact rfl); (apply sq_call; (exact Ev.func); (focus ((apply EvL.cons; (exact ev_)); exact EvL.nil)); (focus (repeat (first | exact App.nil | apply App.cons))); assumption; exact hmt; (exact sel_); exact rfl); (apply sq_ex; (apply ex_move; (exact ev_)); exact rfl); (apply sq_want; exact rfl; (exact ev_); exact rfl; exact rfl); (apply sq_ex; (apply ex_move; (exact ev_)); exact rfl); (apply sq_want; exact rfl; (exact ev_); exact rfl; exact rfl); (apply sq_ex; (apply ex_nilCheck; (exact ev_)); exact rfl); (apply sq_want; exact rfl; (exact ev_); exact rfl; exact rfl); (apply sq_ex; (apply ex_fieldAddr; (exact ev_); assumption); exact rfl); (apply sq_want; exact rfl; (exact ev_); exact rfl; exact rfl); (apply sq_ex; (apply ex_load1; (exact ev_); assumption; (exact mem_); (exact nth_)); exact rfl); (apply sq_want; exact rfl; (exact ev_); exact rfl; exact rfl); (apply sq_ex; (apply ex_move; (exact ev_)); exact rfl); (apply sq_want; exact rfl; (exact ev_); exact rfl; exact rfl); (apply sq_ex; (apply ex_indexAddr; (exact ev_); (exact ev_); assumption; assumption; (first | exact rfl | exact (rfl : (0:Int) = ((0:Nat):Int)) | exact (rfl : (1:Int) = ((1:Nat):Int)) | exact (rfl : (2:Int) = ((2:Nat):Int)) | assumption); (first | assumption | omega | decide)); exact rfl); (apply sq_want; exact rfl; (exact ev_); exact rfl; exact rfl); (apply sq_ex; (apply ex_fieldAddr; (exact ev_); assumption); exact rfl); (apply sq_want; exact rfl; (exact ev_); exact rfl; exact rfl); (apply sq_ex; (first | (apply ex_load1r; (focus (fail)); assumption; (repeat (first | exact List.mem_append_left _ hgm | apply List.Mem.tail)); exact h0) | (apply ex_loadNr (r := [Value.int .i64 kd, .int .i64 tb', .int .i64 pg, .int .i64 sl]); (exact ev_); assumption; (repeat (first | exact List.mem_append_left _ hgm | apply List.Mem.tail)); exact rfl; exact h4) | (apply ex_loadNr (r := [Value.int .i64 a, .int .i64 b, .int .i64 u, .int .i64 e]); (focus (fail)); assumption; (exact mem_); exact rfl; exact hlt)); exact rfl); (apply sq_want; exact rfl; (exact ev_); exact rfl; exact rfl); (apply sq_ex; (apply ex_move; (exact ev_)); exact rfl); (apply sq_want; exact rfl; (exact ev_); exact rfl; exact rfl); (apply sq_ex; (apply ex_move; (exact ev_)); exact rfl); (apply sq_want; exact rfl; (exact ev_); exact rfl; exact rfl); (apply sq_ex; (apply ex_indexAddr; (exact ev_); (exact ev_); assumption; assumption; (first | exact rfl | exact (rfl : (0:Int) = ((0:Nat):Int)) | exact (rfl : (1:Int) = ((1:Nat):Int)) | exact (rfl : (2:Int) = ((2:Nat):Int)) | assumption); (first | assumption | omega | decide)); exact rfl); (apply sq_want; exact rfl; (exact ev_); exact rfl; exact rfl); (apply sq_ex; (first | (apply ex_load1r; (focus (fail)); assumption; (repeat (first | exact List.mem_append_left _ hgm | apply List.Mem.tail)); exact h0) | (apply ex_loadNr (r := [Value.int .i64 kd, .int .i64 tb', .int .i64 pg, .int .i64 sl]); (focus (fail)); assumption; (repeat (first | exact List.mem_append_left _ hgm | apply List.Mem.tail)); exact rfl; exact h4) | (apply ex_loadNr (r := [Value.int .i64 a, .int .i64 b, .int .i64 u, .int .i64 e]); (exact ev_); assumption; (exact mem_); exact rfl; exact hlt)); exact rfl); (apply sq_want; exact rfl; (exact ev_); exact rfl; exact rfl); (apply sq_call; (exact Ev.func); (focus ((apply EvL.cons; (exact ev_)); (apply EvL.cons; (exact ev_)); exact EvL.nil)); (focus (repeat (first | exact App.nil | apply App.cons))); assumption; exact hct; (exact sel_); exact rfl); (apply sq_ex; (apply ex_pick_t; (exact ev_); (exact ev_)); exact rfl); (apply sq_ex; (apply ex_move; (exact ev_)); exact rfl); (apply sq_want; exact rfl; (exact ev_); exact rfl; exact rfl); (apply sq_ex; (apply ex_move; (exact ev_)); exact rfl); (apply sq_want; exact rfl; (exact ev_); exact rfl; exact rfl); (apply sq_ex; (apply ex_move; (exact ev_)); exact rfl); (apply sq_want; exact rfl; (exact ev_); exact rfl; exact rfl); (apply sq_ex; (apply ex_nilCheck; (exact ev_)); exact rfl); (apply sq_want; exact rfl; (exact ev_); exact rfl; exact rfl); (apply sq_ex; (apply ex_fieldAddr; (exact ev_); assumption); exact rfl); (apply sq_want; exact rfl; (exact ev_); exact rfl; exact rfl); (apply sq_ex; (apply ex_load1; (exact ev_); assumption; (exact mem_); (exact nth_)); exact rfl); (apply sq_want; exact rfl; (exact ev_); exact rfl; exact rfl); (apply sq_ex; (apply ex_move; (exact ev_)); exact rfl); (apply sq_want; exact rfl; (exact ev_); exact rfl; exact rfl); (apply sq_ex; (apply ex_indexAddr; (exact ev_); (exact ev_); assumption; assumption; (first | exact rfl | exact (rfl : (0:Int) = ((0:Nat):Int)) | exact (rfl : (1:Int) = ((1:Nat):Int)) | exact (rfl : (2:Int) = ((2:Nat):Int)) | assumption); (first | assumption | omega | decide)); exact rfl); (apply sq_want; exact rfl; (exact ev_); exact rfl; exact rfl); (apply sq_ex; (apply ex_fieldAddr; (exact ev_); assumption); exact rfl); (apply sq_want; exact rfl; (exact ev_); exact rfl; exact rfl); (apply sq_ex; (first | (apply ex_load1r; (exact ev_); assumption; (repeat (first | exact List.mem_append_left _ hgm | apply List.Mem.tail)); exact h0) | (apply ex_loadNr (r := [Value.int .i64 kd, .int .i64 tb', .int .i64 pg, .int .i64 sl]); (focus (fail)); assumption; (repeat (first | exact List.mem_append_left _ hgm | apply List.Mem.tail)); exact rfl; exact h4) | (apply ex_loadNr (r := [Value.int .i64 a, .int .i64 b, .int .i64 u, .int .i64 e]); (focus (fail)); assumption; (exact mem_); exact rfl; exact hlt)); exact rfl); (apply sq_want; exact rfl; (exact ev_); exact rfl; exact rfl); (apply sq_call; (exact Ev.func); (focus ((apply EvL.cons; (exact ev_)); (apply EvL.cons; (exact ev_)); exact EvL.nil)); (focus (repeat (first | exact App.nil | apply App.cons))); assumption; exact hin; (exact sel_); exact rfl); (apply sq_want; exact rfl; (exact ev_); exact rfl; exact rfl); (apply sq_ex; (apply ex_not; (exact ev_)); exact rfl); (apply sq_ex; (apply ex_pick_t; (exact ev_); (exact ev_)); exact rfl); (apply sq_nil); (apply nm_then); (apply sc_cond_true; (exact ev_)); (apply sc_region); (apply so_ex; (apply ex_move; (exact ev_)); exact rfl); (apply so_ex; (apply ex_move; (exact ev_)); exact rfl); (apply so_ex; (apply ex_nilCheck; (exact ev_)); exact rfl); (apply so_ex; (apply ex_fieldAddr; (exact ev_); assumption); exact rfl); (apply so_ex; (apply ex_load1; (exact ev_); assumption; (exact mem_); (exact nth_)); exact rfl); (apply so_ex; (apply ex_move; (exact ev_)); exact rfl); (apply so_ex; (apply ex_indexAddr; (exact ev_); (exact ev_); assumption; assumption; (first | exact rfl | exact (rfl : (0:Int) = ((0:Nat):Int)) | exact (rfl : (1:Int) = ((1:Nat):Int)) | exact (rfl : (2:Int) = ((2:Nat):Int)) | assumption); (first | assumption | omega | decide)); exact rfl); (apply so_ex; (apply ex_fieldAddr; (exact ev_); assumption); exact rfl); (apply so_ex; (apply ex_load1r; (exact ev_); assumption; (repeat (first | exact List.mem_append_left _ hgm | apply List.Mem.tail)); exact h0); exact rfl))
            (apply so_call; (exact Ev.func); (focus ((apply EvL.cons; (exact ev_)); (apply EvL.cons; (exact ev_)); exact EvL.nil)); (focus (repeat (first | exact App.nil | apply App.cons))); assumption; (exact put_tri (b := g) (cap := gcap) (xs := zs) (junk := junk) (by omega) ktx); (exact sel_); exact rfl)
            rintro v L' ⟨g3, gcap3, junk3, rfl, rfl⟩
            simp only [List.cons_append, List.nil_append]
            ((apply so_ex; (apply ex_assign; (exact ev_)); exact rfl); (apply so_nil); (apply nm_block); (apply nm_then); (apply sc_region); (apply so_ex; (apply ex_move; (exact ev_)); exact rfl); (apply so_ex; (apply ex_add; (exact ev_); ((exact Ev.const)); (first | assumption | (apply wrap_in; unfold InI; omega) | exact rfl)); exact rfl); (apply so_ex; (apply ex_assign; (exact ev_)); exact rfl); (apply so_nil); (apply nm_then))
            refine ⟨_, by rw [hq2]; omega, i + 1, g3, gcap3, putL zs ktx, junk3, by omega, rfl, putL_nodup hzn hx, putL_sorted hzs, fun x => ?_, (by apply Ev.at; (exact ev_)), (by apply Ev.at; (exact ev_)), (by apply Ev.at; (exact ev_)), (by apply Ev.at; (exact ev_)), (by apply Ev.at; (exact ev_)), (by apply held; (exact sel_); (exact appb_))⟩
            rw [putL_mem, hzm x, hrt]
            constructor
            · rintro (h | h | ⟨h, _⟩)
              · exact .inr ⟨h.symm, rfl⟩
              · exact .inl h
              · exact .inr ⟨h, rfl⟩
            · rintro (h | ⟨h, _⟩)
              · exact .inr (.inl h)
              · exact .inl h.symm
    · rename_i hge
      have ei : i = ts.length := by omega
      subst ei
      rw [List.take_length] at hzm
      (apply so_nil; apply nm_then; (apply sc_cond_false; (exact ev_)); (apply sc_exit); (apply et_then); (apply et_then); (apply et_hit); (apply nm_block); (apply nm_then); (apply sc_region); (apply so_ex; (apply ex_move; (exact ev_)); exact rfl); (apply so_ex; (apply ex_add; (exact ev_); ((exact Ev.const)); (first | assumption | (apply wrap_in; unfold InI; omega) | exact rfl)); exact rfl); (apply so_ex; (apply ex_assign; (exact ev_)); exact rfl); (apply so_nil); (apply nm_then))
      refine ⟨_, by rw [hq]; omega, j + 1, g, gcap, zs, junk, by omega, rfl, hzn, hzs, fun x => ?_, (by apply Ev.at; (exact ev_)), (by apply Ev.at; (exact ev_)), (by apply Ev.at; (exact ev_)), (by apply Ev.at; (exact ev_)), (by apply held; (exact sel_); (exact appb_))⟩
      rw [hzm x, htk]
      constructor
      · rintro (⟨k, h1, h2⟩ | ⟨h1, h2⟩)
        · exact ⟨k, List.mem_append_left _ h1, h2⟩
        · exact ⟨_, List.mem_append_right _ (List.mem_singleton.2 rfl), h1, h2⟩
      · rintro ⟨k, h1, h2⟩
        rcases List.mem_append.1 h1 with h1 | h1
        · exact .inl ⟨k, h1, h2⟩
        · rw [List.mem_singleton.1 h1] at h2
          exact .inr h2
  · rename_i hge
    have ej : j = S.length := by omega
    subst ej
    rw [List.take_length] at hzm
    (apply so_nil; apply nm_then; (apply sc_cond_false; (exact ev_)); (apply sc_exit); (apply et_then); (apply et_then); (apply et_hit); (apply nm_then); apply sc_seq; apply sc_region; (apply so_ex; (apply ex_move; (exact ev_)); exact rfl); (apply so_ex; (apply ex_assign; (exact ev_)); exact rfl); apply so_nil; apply nm_then; (apply sc_ret); (apply ret_ok; (focus ((apply Res.tmp; (exact ev_)); exact Res.nil)); (exact ⟨zs, g, gcap, junk, ⟨hzn, hzs, hzm⟩, rfl, rfl⟩); (exact sel_); (exact appb_)))
end Go.Proofs.Ytbpioemenmahaaa
