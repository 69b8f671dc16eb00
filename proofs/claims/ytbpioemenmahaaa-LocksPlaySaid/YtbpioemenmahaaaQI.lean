/- Locks: Holders as a list that the locks determine; Nums of nothing. Locks: small things for the walks: calls as an argument, cells of tables. -/
import Derived.Test.YtbpioemenmahaaaQH
import Derived.Test.YtbpioemenmahaaaQE
import Derived.Test.YtbpioemenmahaaaQG
set_option linter.unusedVariables false
set_option linter.unusedSimpArgs false
set_option linter.unnecessarySimpa false
namespace Go.Proofs.Ytbpioemenmahaaa
open Go.Sym

/-- the transactions that hold one of the targets, in order -/
structure HoldL (S : List Lk) (ts : List Tgt) (zs : List Int) : Prop where
  nodup : zs.Nodup
  sorted : zs.Pairwise (· ≤ ·)
  mem : ∀ x, x ∈ zs ↔ ∃ k ∈ S, k.tx = x ∧ hits k ts = true
theorem sort_sorted (l : List Int) : (l.mergeSort fun x y => decide (x ≤ y)).Pairwise (· ≤ ·) := by
  have := List.pairwise_mergeSort (le := fun (x y : Int) => decide (x ≤ y)) (fun a b c h1 h2 => by simp at *; omega) (fun a b => by simp; omega) l
  exact this.imp fun h => by simpa using h
def dedup : List Int → List Int
  | [] => []
  | x :: l => if x ∈ dedup l then dedup l else x :: dedup l
theorem mem_dedup {x : Int} : ∀ {l : List Int}, x ∈ dedup l ↔ x ∈ l
  | [] => Iff.rfl
  | y :: l => by
    unfold dedup
    split
    · rename_i h
      rw [mem_dedup (l := l), List.mem_cons]
      refine ⟨.inr, fun h2 => h2.elim (fun e => ?_) id⟩
      rw [e]; exact mem_dedup.1 h
    · rw [List.mem_cons, List.mem_cons, mem_dedup (l := l)]
theorem nodup_dedup : ∀ l : List Int, (dedup l).Nodup
  | [] => List.nodup_nil
  | y :: l => by
    unfold dedup
    split
    · exact nodup_dedup l
    · rename_i h; exact List.nodup_cons.2 ⟨h, nodup_dedup l⟩
theorem holdL_ex (S : List Lk) (ts : List Tgt) : ∃ zs, HoldL S ts zs := by
  refine ⟨(dedup ((S.filter fun k => hits k ts).map (·.tx))).mergeSort fun x y => decide (x ≤ y), ?_, sort_sorted _, fun x => ?_⟩
  · exact (List.mergeSort_perm _ _).nodup_iff.2 (nodup_dedup _)
  · rw [(List.mergeSort_perm _ _).mem_iff, mem_dedup, List.mem_map]
    constructor
    · rintro ⟨k, h1, h2⟩
      have := List.mem_filter.1 h1
      exact ⟨k, this.1, h2, this.2⟩
    · rintro ⟨k, h1, h2, h3⟩
      exact ⟨k, List.mem_filter.2 ⟨h1, h3⟩, h2⟩
theorem HoldL.perm {S S' : List Lk} {ts : List Tgt} {zs : List Int} (h : HoldL S ts zs) (hp : S.Perm S') : HoldL S' ts zs :=
  ⟨h.nodup, h.sorted, fun x => by
    rw [h.mem x]
    exact ⟨fun ⟨k, h1, h2⟩ => ⟨k, hp.mem_iff.1 h1, h2⟩, fun ⟨k, h1, h2⟩ => ⟨k, hp.mem_iff.2 h1, h2⟩⟩⟩
theorem holdersN_tri {p m tb : Nat} {most : Int} {es : Array MapEntry} {c cap : Nat} {S : List Lk} {ts : List Tgt} {T : TypeId} (hM : MapOf encLock (lv S) es c) (hS : S.length ≤ 1000000) (hT : ts.length ≤ 1000000) (hw : ∀ k ∈ S, (Lit.int .i64 k.tx).wf = true) (hz : HoldL S ts []) :
    Tri Try.prog 25 #[.pointer (some ⟨p, 0, none⟩), .slice (some ⟨tb, 0, none⟩) ts.length cap] (lBlk p m most es c ++ [(tb, .cells (tcells ts).toArray T)])
      (fun v L => ∃ o cap2, v = .slice o 0 cap2 ∧ L = lBlk p m most es c ++ [(tb, .cells (tcells ts).toArray T)]) := .mk fun E R w hh =>
  ((holders_tri hM hS hT hw).out E R w hh).mono fun e w' ⟨v, L, he, ⟨fs, hfs, hfn, ys, hyp, hys, hv⟩, h2⟩ => by
    obtain rfl : ys = [] := sorted_eq hyp hys hfn hz.nodup hz.sorted fun x => by rw [hfs x, hz.mem x]
    rcases hv with ⟨_, h3, rfl⟩ | ⟨g, cap2, junk, h3, rfl⟩
    · exact ⟨v, _, he, ⟨_, _, h3, rfl⟩, h2⟩
    · exact ⟨v, _, he, ⟨_, _, h3, rfl⟩, h2.sub (List.sublist_cons_self _ _)⟩
theorem holdersS_tri {p m tb : Nat} {most : Int} {es : Array MapEntry} {c cap : Nat} {S : List Lk} {ts : List Tgt} {T : TypeId} {zs : List Int} (hM : MapOf encLock (lv S) es c) (hS : S.length ≤ 1000000) (hT : ts.length ≤ 1000000) (hw : ∀ k ∈ S, (Lit.int .i64 k.tx).wf = true) (hz : HoldL S ts zs) (hne : zs ≠ []) :
    Tri Try.prog 25 #[.pointer (some ⟨p, 0, none⟩), .slice (some ⟨tb, 0, none⟩) ts.length cap] (lBlk p m most es c ++ [(tb, .cells (tcells ts).toArray T)])
      (fun v L => ∃ (g cap2 : Nat) (junk : List Value), v = .slice (some ⟨g, 0, none⟩) zs.length cap2 ∧ L = (g, .cells (zs.map (Value.int .i64) ++ junk).toArray 3) :: (lBlk p m most es c ++ [(tb, .cells (tcells ts).toArray T)])) :=
  (holders_tri hM hS hT hw).mono fun v L ⟨fs, hfs, hfn, ys, hyp, hys, hv⟩ => by
    obtain rfl : ys = zs := sorted_eq hyp hys hfn hz.nodup hz.sorted fun x => by rw [hfs x, hz.mem x]
    rcases hv with ⟨h, _⟩ | ⟨g, cap2, junk, h3, h4⟩
    · exact absurd h hne
    · exact ⟨g, cap2, junk, h3, h4⟩
theorem numsZ_tri (o o' : Option Addr) (ca cb : Nat) : TriQ Try.prog 24 #[.slice o 0 ca, .slice o' 0 cb] [] (.bool true) := by
  have f_mixed := mixed; have f_by3 := by3; have f_ty3 := ty3; have f_ty49 := ty49; have f_un_49 : Und Try.prog 49 _ := ⟨Try.underlying49⟩; have f_zero3 := zero3; have f_zv3 := zv3
  refine tri_intro (args := [_, _]) Try.func24 rfl Try.ntmps24 rfl (rs := _) rfl rfl fun E R => ?_
  simp only [fr, List.cons_append, List.nil_append]
  (apply sc_seq; apply sc_region; (apply so_ex; (apply ex_assign; ((exact Ev.const))); exact rfl); apply so_nil; apply nm_then; (apply sc_seq); apply sc_seq; apply sc_region; (apply so_ex; (apply ex_move; (exact ev_)); exact rfl); (apply so_ex; (apply ex_len_slice; (exact ev_); assumption); exact rfl); (apply so_ex; (apply ex_move; (exact ev_)); exact rfl); (apply so_ex; (apply ex_len_slice; (exact ev_); assumption); exact rfl); (apply so_ex; (apply ex_neq_f; (exact ev_); (exact ev_); (first | assumption | omega)); exact rfl); apply so_nil; apply nm_then; (apply sc_cond_false; (exact ev_)); (apply sc_skip); (apply nm_then); (apply sc_seq); apply sc_seq; apply sc_region; (apply so_ex; (apply ex_assign; ((exact Ev.const))); exact rfl); apply so_nil; apply nm_then; (apply sc_block))
  refine sc_loop (fun k f L => At f 0 (.slice o 0 ca) ∧ At f 5 (.int .i64 0) ∧ Held L [] R) 0 ⟨(by apply Ev.at; (exact ev_)), (by apply Ev.at; (exact ev_)), (by apply held; (exact sel_); (exact appb_))⟩ ?_
  rintro k f L ⟨a0, a5, ⟨G, hG⟩⟩
  refine sc_perm hG ?_
  simp only [List.cons_append, List.nil_append]
  ((apply sc_seq); apply sc_seq; apply sc_region; (apply so_ex; (apply ex_move; (exact ev_)); exact rfl); (apply so_ex; (apply ex_move; (exact ev_)); exact rfl); (apply so_ex; (apply ex_len_slice; (exact ev_); assumption); exact rfl); (apply so_ex; (apply ex_lss_f; (exact ev_); (exact ev_); (first | assumption | omega)); exact rfl); apply so_nil; apply nm_then; (apply sc_cond_false; (exact ev_)); (apply sc_exit); (apply et_then); (apply et_then); (apply et_hit); (apply nm_then); apply sc_seq; apply sc_region; (apply so_ex; (apply ex_assign; ((exact Ev.const))); exact rfl); apply so_nil; apply nm_then; (apply sc_ret); (apply ret_ok; (focus ((apply Res.tmp; (exact ev_)); exact Res.nil)); (exact ⟨rfl, rfl⟩); (exact sel_); (exact appb_)))
theorem numsS_tri {xs : List Int} {ba ca bb cb : Nat} {ja jb : List Value} {Ta Tb : TypeId} (hS : xs.length < 1000000) : TriQ Try.prog 24 #[.slice (some ⟨ba, 0, none⟩) xs.length ca, .slice (some ⟨bb, 0, none⟩) xs.length cb] [(ba, .cells (xs.map (Value.int .i64) ++ ja).toArray Ta), (bb, .cells (xs.map (Value.int .i64) ++ jb).toArray Tb)] (.bool true) := by
  have h := nums_tri (xs := xs) (ys := xs) (ba := ba) (ca := ca) (bb := bb) (cb := cb) (ja := ja) (jb := jb) (Ta := Ta) (Tb := Tb) hS
  have e : decide (xs = xs) = true := by simp
  rw [e] at h
  exact h
theorem holdL_len {S : List Lk} {ts : List Tgt} {zs : List Int} (h : HoldL S ts zs) : zs.length ≤ S.length := by
  have := nodup_len zs (S.map (·.tx)) h.nodup fun x hx => by
    obtain ⟨k, h1, rfl, _⟩ := (h.mem x).1 hx
    exact List.mem_map.2 ⟨k, h1, rfl⟩
  simpa using this
end Go.Proofs.Ytbpioemenmahaaa
namespace Go.Proofs.Ytbpioemenmahaaa
open Go.Sym

theorem hcells_at {S : List Lk} : ∀ {ts : List Tgt} {j : Nat} (_ : j < ts.length) (q : Nat) (_ : q < 6), (hcells S ts)[j * 6 + q]? = some (.bool (hasT S (q : Int) (ts[j])))
  | t :: ts, 0, _, q, hq => by
    unfold hcells
    rw [List.flatMap_cons, Nat.zero_mul, Nat.zero_add, List.getElem?_append_left (by simpa [hrow] using hq)]
    match q, hq with
    | 0, _ => rfl
    | 1, _ => rfl
    | 2, _ => rfl
    | 3, _ => rfl
    | 4, _ => rfl
    | 5, _ => rfl
  | t :: ts, j + 1, h, q, hq => by
    have ih := hcells_at (S := S) (ts := ts) (j := j) (by simpa using h) q hq
    unfold hcells at ih ⊢
    rw [List.flatMap_cons, List.getElem?_append_right (by simp [hrow]; omega)]
    have e : (j + 1) * 6 + q - (hrow S t).length = j * 6 + q := by simp [hrow]; omega
    rw [e, ih]
    simp
theorem wf_small {z : Int} (h : 1 ≤ z ∧ z ≤ 5) : (Lit.int .i64 z).wf = true := by
  have : z = 1 ∨ z = 2 ∨ z = 3 ∨ z = 4 ∨ z = 5 := by omega
  rcases this with rfl | rfl | rfl | rfl | rfl <;> rfl
/-- an argument: a slice of calls -/
def CallsIn (o : Option Addr) (len : Nat) (P0 : List Blk) : Prop :=
  0 < len → ∃ (bb off : Nat) (cl : List Value) (T : TypeId) (fz : Nat × Nat), o = some ⟨bb, off, none⟩ ∧ ((bb, Obj.cells cl.toArray T fz) : Blk) ∈ P0 ∧ ∀ q j, q < len → j < 7 → ∃ z : Int, cl[off + q * 7 + j]? = some (.int .i64 z)
end Go.Proofs.Ytbpioemenmahaaa
