/- Locks: what Near gives; Drop and Read as one step. -/
import Derived.Test.YtbpioemenmahaaaH2
import Derived.Test.YtbpioemenmahaaaG1
set_option linter.unusedVariables false
set_option linter.unusedSimpArgs false
set_option linter.unnecessarySimpa false
namespace Go.Proofs.Ytbpioemenmahaaa
open Go.Sym

theorem and_mask (z : Int) (n : Nat) (hn : n < 9223372036854775808) : ∃ N : Int, bitsZ .and .i64 z n = N ∧ 0 ≤ N ∧ N ≤ n := by
  refine ⟨_, rfl, ?_⟩
  have h : (BitVec.ofInt IntKind.i64.bits z &&& BitVec.ofInt IntKind.i64.bits n).toNat ≤ n := by
    rw [BitVec.toNat_and]
    refine Nat.le_trans Nat.and_le_right ?_
    rw [BitVec.ofInt_natCast, BitVec.toNat_ofNat]
    exact Nat.mod_le _ _
  unfold bitsZ
  simp only
  rw [wrap_nn (by omega)]
  omega
/-- what Near gives -/
structure Near (k tx : Int) (t : Tgt) (to : Int) : Prop where
  k0 : 0 ≤ k
  k7 : k ≤ 7
  tx1 : 1 ≤ tx
  tx5 : tx ≤ 5
  may : mayT t = true
  tb0 : 0 ≤ t.table
  tb1 : t.table ≤ 1
  pg3 : t.page ≤ 3
  pg0 : -1 ≤ t.page
  to0 : 0 ≤ to
  to7 : to ≤ 7
theorem near_out (c0 c1 c2 c3 c4 c5 c6 : Int) : ∃ k tx a b u s to : Int, nearV c0 c1 c2 c3 c4 c5 c6 = .agg #[.int .i64 k, .int .i64 tx, .int .i64 a, .int .i64 b, .int .i64 u, .int .i64 s, .int .i64 to] ∧ Near k tx ⟨a, b, u, s⟩ to := by
  unfold nearV
  obtain ⟨e0, h0, h00, h01⟩ := and_mask c0 7 (by decide)
  obtain ⟨e1, h1, h10, h11⟩ := and_mask c1 7 (by decide)
  obtain ⟨e2, h2, h20, h21⟩ := and_mask c2 3 (by decide)
  obtain ⟨e3, h3, h30, h31⟩ := and_mask c3 1 (by decide)
  obtain ⟨e4, h4, h40, h41⟩ := and_mask c4 3 (by decide)
  obtain ⟨e5, h5, h50, h51⟩ := and_mask c5 3 (by decide)
  obtain ⟨e6, h6, h60, h61⟩ := and_mask c6 7 (by decide)
  have h0 : bitsZ .and .i64 c0 7 = e0 := h0
  have h1 : bitsZ .and .i64 c1 7 = e1 := h1
  have h2 : bitsZ .and .i64 c2 3 = e2 := h2
  have h3 : bitsZ .and .i64 c3 1 = e3 := h3
  have h4 : bitsZ .and .i64 c4 3 = e4 := h4
  have h5 : bitsZ .and .i64 c5 3 = e5 := h5
  have h6 : bitsZ .and .i64 c6 7 = e6 := h6
  rw [h0, h1, h2, h3, h4, h5, h6]
  have ht : 0 ≤ e1.tmod 5 ∧ e1.tmod 5 ≤ 4 := ⟨Int.tmod_nonneg 5 h10, Int.le_of_lt_add_one (Int.tmod_lt_of_pos e1 (by decide))⟩
  rw [wrap_in (x := 1 + e1.tmod 5) (by unfold InI; omega), wrap_in (x := 1 + e2) (by unfold InI; omega)]
  refine ⟨_, _, _, _, _, _, _, rfl, h00, by omega, by omega, by omega, ?_, h30, by omega, ?_, ?_, h60, by omega⟩
  · simp only [mayT]
    split
    · simp; omega
    · split
      · simp; omega
      · split
        · simp; omega
        · exfalso; omega
  · simp only; split <;> omega
  · simp only; split <;> omega
/-- Drop or Read, as one step -/
structure DoR (most : Int) (K tx : Int) (t : Tgt) (S : List Lk) (r : Int) (S' : List Lk) : Prop where
  ret : r = 0 ∨ r = 45 ∧ K = 3
  same : r = 45 → S' = S
  len : (S'.length : Int) ≤ most
  keep : ∀ tx' t', (K = 2 → tx' ≠ tx) → hasT S tx' t' = true → hasT S' tx' t' = true
  gone : K = 2 → ∀ t', hasT S' tx t' = false
  got : K = 3 → r = 0 → hasT S' tx t = true
theorem doR_drop {most : Int} {S : List Lk} {tx : Int} (t : Tgt) (hl : (S.length : Int) ≤ most) : DoR most 2 tx t S 0 (dropT S tx) where
  ret := .inl rfl
  same h := by cases h
  len := by
    have := List.length_filter_le (fun k : Lk => !decide (k.tx = tx)) S
    unfold dropT
    omega
  keep tx' t' h1 h2 := hasT_drop (h1 rfl) h2
  gone _ t' := hasT_dropped S tx t'
  got h := by cases h
theorem doR_read {most : Int} {S S' : List Lk} {tx r : Int} {t : Tgt} (h1 : 1 ≤ tx) (hm : mayT t = true) (hl : (S.length : Int) ≤ most) (hmost : 1 ≤ most) (h : ReadR most S tx t r S') : DoR most 3 tx t S r S' := by
  rcases h with ⟨h, _⟩ | ⟨_, hh, rfl, rfl⟩ | ⟨_, _, ⟨hc, rfl⟩ | ⟨S2, hc, rfl, rfl⟩⟩
  · exact absurd ⟨h1, hm⟩ h
  · exact ⟨.inl rfl, fun _ => rfl, hl, fun _ _ _ h => h, fun h => (by cases h), fun _ _ => hh⟩
  · refine ⟨.inl rfl, fun h => (by cases h), ?_, fun _ _ _ h => hasT_co hc (hasT_add h), fun h => (by cases h), fun _ _ => hasT_co hc (hasT_new S hm)⟩
    have := co_len hc rfl
    omega
  · exact ⟨.inr ⟨rfl, rfl⟩, fun _ => rfl, hl, fun _ _ _ h => h, fun h => (by cases h), fun _ h => (by cases h)⟩
theorem do23_tri {p m : Nat} {most : Int} {es : Array MapEntry} {c : Nat} {S : List Lk} (hM : MapOf encLock (lv S) es c) (hS : S.length < 1000000) {K tx k t pg s : Int} (to : Int) (hK : K = 2 ∨ K = 3) (h1 : 1 ≤ tx) (hm : mayT ⟨k, t, pg, s⟩ = true) (hl : (S.length : Int) ≤ most) (hmost : 1 ≤ most) :
    Tri Try.prog 36 #[.pointer (some ⟨p, 0, none⟩), .agg #[.int .i64 K, .int .i64 tx, .int .i64 k, .int .i64 t, .int .i64 pg, .int .i64 s, .int .i64 to]] (lBlk p m most es c) (fun v L => ∃ r S', v = .int .i64 r ∧ DoR most K tx ⟨k, t, pg, s⟩ S r S' ∧ LAt p most S' L) := by
  rcases hK with rfl | rfl
  · exact (doDrop_tri hM tx k t pg s to).mono fun v L ⟨hv, hL⟩ => ⟨0, _, hv, doR_drop _ hl, hL⟩
  · exact (doRead_tri hM hS tx k t pg s to).mono fun v L ⟨r, S', hv, hR, hL⟩ => ⟨r, S', hv, doR_read h1 hm hl hmost hR, hL⟩
end Go.Proofs.Ytbpioemenmahaaa
