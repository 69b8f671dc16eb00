/-
  'Rows.ConflictSafeSaid' ('vintner/vintnerlaw12.ConflictSafe'): at any arguments the law answers true and lays at most new blocks.
  HOW: an interpreter of the model's code, proved sound (RcA to RdE), is run by the kernel at all rests of the arguments that the code tells apart; keys, forget and sanity are oracles (C1 to C3, Sane); the shell about the walk was written by program (proof-skeleton.mjs).
-/
import Derived.Test.YtomgkmoecbnddaaRows
import Derived.WalkKit
import Derived.ProofKit
import Derived.OpenShut
import Derived.Test.YtomgkmoecbnddaaRdD
import Derived.Test.YtomgkmoecbnddaaRdE
import Derived.Test.YtomgkmoecbnddaaSafeA
import Derived.Test.YtomgkmoecbnddaaSafeB
import Derived.Test.YtomgkmoecbnddaaSafeC
import Derived.Test.YtomgkmoecbnddaaSafeD
import Derived.Test.YtomgkmoecbnddaaSafeE
import Derived.Test.YtomgkmoecbnddaaSafeF
import Derived.Test.YtomgkmoecbnddaaSafeG
import Derived.Test.YtomgkmoecbnddaaSafeH
import Derived.Test.YtomgkmoecbnddaaSafeI
import Derived.Test.YtomgkmoecbnddaaSafeJ
import Derived.Test.YtomgkmoecbnddaaSafeK
namespace Go.Proofs.Ytomgkmoecbnddaa.conflictSafe
open Go.ChangeShapes Go.WideShapes Go.ChangeAt Go.RowKit
set_option linter.unusedVariables false

theorem own : ownKnob Try.prog.godebug = none := by kernel_rfl

open Go.Rc in
theorem byteFit {a : Int} (h : (Lit.int .u8 a).wf = true) : 0 ≤ a ∧ a < 256 := by
  simp [Lit.wf, IntKind.min, IntKind.max, IntKind.signed, IntKind.bits] at h
  omega
open Go.Rc in
theorem byteRel {σ : Sg} {a m r : Nat} (h : (a : Int) < 256) (e : a % m = r) : Rel σ (vNum 4 m r 256) (.int .u8 a) := .r8 e (by omega) (by omega)
open Go.Rc safeRuns in
theorem rowIn {i j k : Nat} (hk : k < 8) : args i j k ∈ row i j := List.mem_map.2 ⟨k, List.mem_range.2 hk, rfl⟩
open Go.Rc safeRuns in
theorem partIn {i lo cnt j k : Nat} (h0 : lo ≤ j) (h1 : j < lo + cnt) (hk : k < 8) : args i j k ∈ (List.range cnt).flatMap fun q => row i (q + lo) :=
  List.mem_flatMap.2 ⟨j - lo, List.mem_range.2 (by omega), by rw [Nat.sub_add_cancel h0]; exact rowIn hk⟩
open Go.Rc safeRuns in
theorem every : ∀ (i j k : Nat), i < 6 → j < 2 ^ (i + 1) → k < 8 → ∀ vals, RelL (fun _ => none) (args i j k) vals → ∀ w : World, Calls Try.prog 6 vals.toArray w fun e w' => e = .returned (.bool true) ∧ Grew w w' := fun i j k hi hj hk => by
  rcases (by omega : i = 0 ∨ i = 1 ∨ i = 2 ∨ i = 3 ∨ i = 4 ∨ i = 5) with rfl | rfl | rfl | rfl | rfl | rfl
  · exact chkAll_ok2 sane.o2_ok run0x0 _ (partIn (by omega) (by omega) hk)
  · exact chkAll_ok2 sane.o2_ok run1x0 _ (partIn (by omega) (by omega) hk)
  · exact chkAll_ok2 sane.o2_ok run2x0 _ (partIn (by omega) (by omega) hk)
  · rcases (by omega : (0 ≤ j ∧ j < 0 + 8) ∨ (8 ≤ j ∧ j < 8 + 8)) with ⟨h0, h1⟩ | ⟨h0, h1⟩
    · exact chkAll_ok2 sane.o2_ok run3x0 _ (partIn h0 h1 hk)
    · exact chkAll_ok2 sane.o2_ok run3x8 _ (partIn h0 h1 hk)
  · rcases (by omega : (0 ≤ j ∧ j < 0 + 8) ∨ (8 ≤ j ∧ j < 8 + 8) ∨ (16 ≤ j ∧ j < 16 + 8) ∨ (24 ≤ j ∧ j < 24 + 8)) with ⟨h0, h1⟩ | ⟨h0, h1⟩ | ⟨h0, h1⟩ | ⟨h0, h1⟩
    · exact chkAll_ok2 sane.o2_ok run4x0 _ (partIn h0 h1 hk)
    · exact chkAll_ok2 sane.o2_ok run4x8 _ (partIn h0 h1 hk)
    · exact chkAll_ok2 sane.o2_ok run4x16 _ (partIn h0 h1 hk)
    · exact chkAll_ok2 sane.o2_ok run4x24 _ (partIn h0 h1 hk)
  · rcases (by omega : (0 ≤ j ∧ j < 0 + 4) ∨ (4 ≤ j ∧ j < 4 + 4) ∨ (8 ≤ j ∧ j < 8 + 4) ∨ (12 ≤ j ∧ j < 12 + 4) ∨ (16 ≤ j ∧ j < 16 + 4) ∨ (20 ≤ j ∧ j < 20 + 4) ∨ (24 ≤ j ∧ j < 24 + 4) ∨ (28 ≤ j ∧ j < 28 + 4) ∨ (32 ≤ j ∧ j < 32 + 4) ∨ (36 ≤ j ∧ j < 36 + 4) ∨ (40 ≤ j ∧ j < 40 + 4) ∨ (44 ≤ j ∧ j < 44 + 4) ∨ (48 ≤ j ∧ j < 48 + 4) ∨ (52 ≤ j ∧ j < 52 + 4) ∨ (56 ≤ j ∧ j < 56 + 4) ∨ (60 ≤ j ∧ j < 60 + 4)) with ⟨h0, h1⟩ | ⟨h0, h1⟩ | ⟨h0, h1⟩ | ⟨h0, h1⟩ | ⟨h0, h1⟩ | ⟨h0, h1⟩ | ⟨h0, h1⟩ | ⟨h0, h1⟩ | ⟨h0, h1⟩ | ⟨h0, h1⟩ | ⟨h0, h1⟩ | ⟨h0, h1⟩ | ⟨h0, h1⟩ | ⟨h0, h1⟩ | ⟨h0, h1⟩ | ⟨h0, h1⟩
    · exact chkAll_ok2 sane.o2_ok run5x0 _ (partIn h0 h1 hk)
    · exact chkAll_ok2 sane.o2_ok run5x4 _ (partIn h0 h1 hk)
    · exact chkAll_ok2 sane.o2_ok run5x8 _ (partIn h0 h1 hk)
    · exact chkAll_ok2 sane.o2_ok run5x12 _ (partIn h0 h1 hk)
    · exact chkAll_ok2 sane.o2_ok run5x16 _ (partIn h0 h1 hk)
    · exact chkAll_ok2 sane.o2_ok run5x20 _ (partIn h0 h1 hk)
    · exact chkAll_ok2 sane.o2_ok run5x24 _ (partIn h0 h1 hk)
    · exact chkAll_ok2 sane.o2_ok run5x28 _ (partIn h0 h1 hk)
    · exact chkAll_ok2 sane.o2_ok run5x32 _ (partIn h0 h1 hk)
    · exact chkAll_ok2 sane.o2_ok run5x36 _ (partIn h0 h1 hk)
    · exact chkAll_ok2 sane.o2_ok run5x40 _ (partIn h0 h1 hk)
    · exact chkAll_ok2 sane.o2_ok run5x44 _ (partIn h0 h1 hk)
    · exact chkAll_ok2 sane.o2_ok run5x48 _ (partIn h0 h1 hk)
    · exact chkAll_ok2 sane.o2_ok run5x52 _ (partIn h0 h1 hk)
    · exact chkAll_ok2 sane.o2_ok run5x56 _ (partIn h0 h1 hk)
    · exact chkAll_ok2 sane.o2_ok run5x60 _ (partIn h0 h1 hk)
/-! ### STEP 1: THE WALK: the Go text returns true. 'Grown w w'': the world has at most new blocks (Derived/RowKit3.lean). Part the cases AHEAD of 'go_enter' where a test parts the walk; take each callee by a contract of your own. -/
theorem walk (a0 : Int) (a1 : Int) (a2 : Int) (w0 : (Lit.int .u8 a0).wf = true) (w1 : (Lit.int .u8 a1).wf = true) (w2 : (Lit.int .u8 a2).wf = true) (w : World) :
    Calls Try.prog 6 #[.int .u8 a0, .int .u8 a1, .int .u8 a2] w fun e w' => e = .returned (.bool true) ∧ Go.Rc.Grew w w' := by
  obtain ⟨l0, u0⟩ := byteFit w0
  obtain ⟨l1, u1⟩ := byteFit w1
  obtain ⟨l2, u2⟩ := byteFit w2
  obtain ⟨n0, rfl⟩ := Int.eq_ofNat_of_zero_le l0
  obtain ⟨n1, rfl⟩ := Int.eq_ofNat_of_zero_le l1
  obtain ⟨n2, rfl⟩ := Int.eq_ofNat_of_zero_le l2
  have hm : 0 < (2 ^ (n0 % 6 + 1)) := by exact Nat.pow_pos (by omega)
  exact every (n0 % 6) (n1 % (2 ^ (n0 % 6 + 1))) (n2 % 8) (Nat.mod_lt _ (by omega)) (Nat.mod_lt _ hm) (Nat.mod_lt _ (by omega)) [.int .u8 n0, .int .u8 n1, .int .u8 n2] (.cons (byteRel u0 rfl) (.cons (byteRel u1 rfl) (.cons (byteRel u2 rfl) .nil))) w

/-! ### THE ROW's STEP: WRITTEN OUT: LEAVE IT -/
set_option maxRecDepth 100000 in
theorem lifted (os : Os) (started : os.Started) (H : Type) (enc : TypeId × Value → H) :
    ReturnsInHanded {} Try.checked os 6 .any (Rows.conflictSafeSpec.pre6 enc Try.prog Try.f6 Rows.conflictSafeRow.domain false) (Rows.conflictSafeSpec.post enc Try.prog Try.f6 false true false false) := by
  refine returnsInHanded_of_change (C := Try.checked) own started (by kernel_rfl) Try.func6
    (ChangeSpec.witness6 (enc := enc) (C := Try.checked) false ⟨#[], #[.int .u8 0, .int .u8 0, .int .u8 0], []⟩ 8 (by kernel_rfl) (by kernel_rfl) (by kernel_rfl) (by kernel_rfl)) ?_
  intro W base args ds gs before hval0 hW hcnd _
  have hval : ∀ (j : Nat) t v, Try.f6.params[j]? = some t → args[j]? = some v → Value.okWide Try.prog W .any base t v := hval0
  have hW' := hW
  obtain ⟨p, q, hA0, hV, rfl, hfz, hnd⟩ := hW
  have hA : DataW.TrodAll enc Try.prog W 0 (fun _ => true) true Try.f6.params.toList args.toList ds p := hA0
  rw [Try.params6] at hA hval
  obtain ⟨v0, vs0, d0, ds0, p0, q0, hargs, rfl, rfl, h0, r0⟩ := trodAll_cons hA
  obtain ⟨v1, vs1, d1, ds1, p1, q1, rfl, rfl, rfl, h1, r1⟩ := trodAll_cons r0
  obtain ⟨v2, vs2, d2, ds2, p2, q2, rfl, rfl, rfl, h2, r2⟩ := trodAll_cons r1
  obtain ⟨rfl, rfl, rfl⟩ := trodAll_nil r2
  obtain rfl : args = #[v0, v1, v2] := by cases args; simp_all
  obtain ⟨rfl, rfl⟩ := trodVars_none hV
  obtain ⟨a0, rfl, rfl, rfl, w0⟩ := open_int Try.underlying5 (hval 0 5 v0 rfl rfl) h0
  obtain ⟨a1, rfl, rfl, rfl, w1⟩ := open_int Try.underlying5 (hval 1 5 v1 rfl rfl) h1
  obtain ⟨a2, rfl, rfl, rfl, w2⟩ := open_int Try.underlying5 (hval 2 5 v2 rfl rfl) h2
  clear hA0 hval0
  simp only [List.append_nil] at hW'
  refine (walk a0 a1 a2 w0 w1 w2 W).mono fun e W' ⟨he, hg⟩ => ?_
  subst he
  exact ⟨_, rfl, Go.Rc.post_grew (pa := []) (pv := []) hW' (fun _ => (trodAll_cons_mk (shut_bool Try.underlying4 _) trodAll_mk0)) (fun sp _ => (trodAll_cons_mk (shut_int Try.underlying5 w0) (trodAll_cons_mk (shut_int Try.underlying5 w1) (trodAll_cons_mk (shut_int Try.underlying5 w2) trodAll_mk0)))) (fun _ => rfl) hg⟩

theorem over : Rows.conflictSafeRow.holds Try.pinned (OpenSpec.ofChange Rows.conflictSafeSpec) :=
  OpenClaim.holds_of_wide 6 Try.f6 rfl rfl rfl rfl rfl rfl rfl ⟨rfl, rfl, rfl, rfl, rfl⟩ rfl rfl rfl rfl rfl (by kernel_rfl) Try.func6 (by kernel_rfl)
    (of_decide_eq_true (by kernel_rfl)) (by unfold Func.isWrapper; first | (rw [if_pos (by decide +kernel)]; kernel_rfl) | (rw [if_neg (by decide +kernel)]; exact ⟨rfl, rfl⟩))
    (fun os started H enc _ => lifted os started H enc)

/-- ████ THE STATEMENT ████ -/
theorem proved : Rows.ConflictSafeSaid :=
  over
#print axioms proved
end Go.Proofs.Ytomgkmoecbnddaa.conflictSafe
