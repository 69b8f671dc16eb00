/- Locks: from an argument that is a slice of calls to a contract. -/
import Derived.Test.YtbpioemenmahaaaI0
import Derived.Test.YtbpioemenmahaaaK0
set_option linter.unusedVariables false
set_option linter.unusedSimpArgs false
set_option linter.unnecessarySimpa false
namespace Go.Proofs.Ytbpioemenmahaaa
open Go.Sym Go.WideShapes

set_option maxRecDepth 100000 in
theorem callsIn_of {W : World} {b : Nat} {v : Value} {H : Type} {enc : TypeId × Value → H} {d : DataW H} {ps : List MemPlace} (hv : Value.okWide Try.prog W .any b 45 v) (h0 : DataW.Trod enc Try.prog W 0 (fun _ => true) true 45 v d ps) :
    ∃ (o : Option Addr) (len cap : Nat), v = .slice o len cap ∧ len ≤ maxLen ∧ ((o = none ∧ len = 0) ∨ ∃ bb T fz, ∃ cs : Array Value, W.heap[bb]? = some (.cells cs T fz) ∧ ∀ P0 : List Blk, (bb, .cells cs T fz) ∈ P0 → CallsIn o len P0) := by
  rcases open_structs Try.underlying45 ints27 hv h0 with rfl | ⟨bb, off, len, cap, cs, T, fz, rfl, hl, hm, hb, hcs⟩
  · exact ⟨none, 0, 0, rfl, Nat.zero_le _, .inl ⟨rfl, rfl⟩⟩
  · refine ⟨_, len, cap, rfl, Nat.le_trans hl hm, .inr ⟨bb, T, fz, cs, hb, fun P0 hP _ => ⟨bb, off, cs.toList, T, fz, rfl, by simpa using hP, fun q j hq hj => ?_⟩⟩⟩
    obtain ⟨z, hz, _⟩ := hcs q j hq (by rw [cells27]; exact hj)
    rw [cells27] at hz
    exact ⟨z, by simpa using hz⟩
set_option maxRecDepth 100000 in
theorem walk_calls {g : FuncId} {W : World} {b : Nat} {v : Value} {H : Type} {enc : TypeId × Value → H} {d : DataW H} {ps : List MemPlace} (mk : Value → Array Value) (hv : Value.okWide Try.prog W .any b 45 v) (h0 : DataW.Trod enc Try.prog W 0 (fun _ => true) true 45 v d ps)
    (hT : ∀ (o : Option Addr) (len cap : Nat) (P0 : List Blk), len ≤ maxLen → CallsIn o len P0 → Tri Try.prog g (mk (.slice o len cap)) P0 fun v L => v = .bool true ∧ L = P0) :
    Calls Try.prog g (mk v) W fun e w' => e = .returned (.bool true) ∧ Grew W w' := by
  obtain ⟨o, len, cap, rfl, hl, ⟨rfl, rfl⟩ | ⟨bb, T, fz, cs, hb, hC⟩⟩ := callsIn_of hv h0
  · exact calls_of ((hT none 0 cap [] hl (fun h => (Nat.lt_irrefl 0 h).elim)).mono fun _ _ h => h.1) W
  · obtain ⟨R, hR⟩ := allB_one hb
    have hall : HP (W.os, W.output) W ([(bb, .cells cs T fz)] ++ R) := hp_allB.perm hR
    refine ((hT o len cap [(bb, .cells cs T fz)] hl (hC _ (List.mem_singleton.2 rfl))).out _ R W hall).mono fun e w' ⟨v, L, he, ⟨hv, hL⟩, hh⟩ => ⟨by rw [he, hv], ?_⟩
    subst hL
    exact grew_of_hp hR hh fun x hx => hx
end Go.Proofs.Ytbpioemenmahaaa
