/- Locks: from an argument that is a slice of calls to a contract. Locks: LocksPlay: from the arguments to the walk. -/
import Derived.Test.YtbpioemenmahaaaQI
import Derived.Test.YtbpioemenmahaaaK0
import Derived.Test.YtbpioemenmahaaaQNc
set_option linter.unusedVariables false
set_option linter.unusedSimpArgs false
set_option linter.unnecessarySimpa false
namespace Go.Proofs.Ytbpioemenmahaaa
open Go.Sym Go.WideShapes

set_option maxRecDepth 100000 in
theorem callsIn_of {W : World} {b : Nat} {v : Value} {H : Type} {enc : TypeId × Value → H} {d : DataW H} {ps : List MemPlace} (hv : Value.okWide Try.prog W .any b 45 v) (h0 : DataW.Trod enc Try.prog W 0 (fun _ => true) true 45 v d ps) :
    ∃ (o : Option Addr) (len cap : Nat), v = .slice o len cap ∧ len ≤ maxLen ∧ ((o = none ∧ len = 0) ∨ ∃ bb T fz, ∃ cs : Array Value, W.heap[bb]? = some (.cells cs T fz) ∧ ∀ P0 : List Blk, (bb, .cells cs T fz) ∈ P0 → CallsIn o len P0) := by
  rcases open_structs Try.underlying45 ints27 hv h0 with rfl | ⟨bb, off, len, cap, cs, T, fz, rfl, hl, hm, hb, hcs⟩
  · exact ⟨none, 0, 0, rfl, Nat.zero_le _, .inl ⟨rfl, rfl⟩⟩
  · refine ⟨_, len, cap, rfl, Nat.le_trans hl hm, .inr ⟨bb, T, fz, cs, hb, fun P0 hP _ => ⟨bb, off, cs.toList, T, fz, rfl, by simpa using hP, fun q j hq hj => ?_⟩⟩⟩
    obtain ⟨z, hz, _⟩ := hcs q j hq (by rw [cells27]; exact hj)
    rw [cells27] at hz
    exact ⟨z, by simpa using hz⟩
set_option maxRecDepth 100000 in
theorem walk_calls {g : FuncId} {W : World} {b : Nat} {v : Value} {H : Type} {enc : TypeId × Value → H} {d : DataW H} {ps : List MemPlace} (mk : Value → Array Value) (hv : Value.okWide Try.prog W .any b 45 v) (h0 : DataW.Trod enc Try.prog W 0 (fun _ => true) true 45 v d ps)
    (hT : ∀ (o : Option Addr) (len cap : Nat) (P0 : List Blk), len ≤ maxLen → CallsIn o len P0 → Tri Try.prog g (mk (.slice o len cap)) P0 fun v L => v = .bool true ∧ L = P0) :
    Calls Try.prog g (mk v) W fun e w' => e = .returned (.bool true) ∧ Grew W w' := by
  obtain ⟨o, len, cap, rfl, hl, ⟨rfl, rfl⟩ | ⟨bb, T, fz, cs, hb, hC⟩⟩ := callsIn_of hv h0
  · exact calls_of ((hT none 0 cap [] hl (fun h => (Nat.lt_irrefl 0 h).elim)).mono fun _ _ h => h.1) W
  · obtain ⟨R, hR⟩ := allB_one hb
    have hall : HP (W.os, W.output) W ([(bb, .cells cs T fz)] ++ R) := hp_allB.perm hR
    refine ((hT o len cap [(bb, .cells cs T fz)] hl (hC _ (List.mem_singleton.2 rfl))).out _ R W hall).mono fun e w' ⟨v, L, he, ⟨hv, hL⟩, hh⟩ => ⟨by rw [he, hv], ?_⟩
    subst hL
    exact grew_of_hp hR hh fun x hx => hx
end Go.Proofs.Ytbpioemenmahaaa
namespace Go.Proofs.Ytbpioemenmahaaa
open Go.Sym Go.WideShapes

set_option maxRecDepth 100000 in
theorem callsW_of {W : World} {b : Nat} {v : Value} {H : Type} {enc : TypeId × Value → H} {d : DataW H} {ps : List MemPlace} (hv : Value.okWide Try.prog W .any b 45 v) (h0 : DataW.Trod enc Try.prog W 0 (fun _ => true) true 45 v d ps) :
    ∃ (o : Option Addr) (len cap : Nat), v = .slice o len cap ∧ len ≤ maxLen ∧ ((o = none ∧ len = 0) ∨ ∃ bb T fz, ∃ cs : Array Value, W.heap[bb]? = some (.cells cs T fz) ∧ ∀ P0 : List Blk, (bb, .cells cs T fz) ∈ P0 → CallsW o len P0) := by
  rcases open_structs Try.underlying45 ints27 hv h0 with rfl | ⟨bb, off, len, cap, cs, T, fz, rfl, hl, hm, hb, hcs⟩
  · exact ⟨none, 0, 0, rfl, Nat.zero_le _, .inl ⟨rfl, rfl⟩⟩
  · refine ⟨_, len, cap, rfl, Nat.le_trans hl hm, .inr ⟨bb, T, fz, cs, hb, fun P0 hP _ => ⟨bb, off, cs.toList, T, fz, rfl, by simpa using hP, fun q j hq hj => ?_⟩⟩⟩
    obtain ⟨z, hz, hw⟩ := hcs q j hq (by rw [cells27]; exact hj)
    rw [cells27] at hz
    exact ⟨z, by simpa using hz, hw⟩
theorem callsW_none {o : Option Addr} (P0 : List Blk) : CallsW o 0 P0 := fun h => (Nat.lt_irrefl 0 h).elim
set_option maxRecDepth 100000 in
theorem play_walk {W : World} {b : Nat} {v1 v2 : Value} {H : Type} {enc : TypeId × Value → H} {d1 d2 : DataW H} {ps1 ps2 : List MemPlace} (n : Int) (hv1 : Value.okWide Try.prog W .any b 45 v1) (h1 : DataW.Trod enc Try.prog W 0 (fun _ => true) true 45 v1 d1 ps1)
    (hv2 : Value.okWide Try.prog W .any b 45 v2) (h2 : DataW.Trod enc Try.prog W 0 (fun _ => true) true 45 v2 d2 ps2) :
    Calls Try.prog 9 #[.int .i64 n, v1, v2] W fun e w' => e = .returned (.bool true) ∧ Grew W w' := by
  have key : ∀ (o1 o2 : Option Addr) (len1 cap1 len2 cap2 : Nat) (P0 R : List Blk), (allB W).Perm (P0 ++ R) → len1 ≤ maxLen → CallsW o1 len1 P0 → CallsW o2 len2 P0 → Calls Try.prog 9 #[.int .i64 n, .slice o1 len1 cap1, .slice o2 len2 cap2] W fun e w' => e = .returned (.bool true) ∧ Grew W w' := fun o1 o2 len1 cap1 len2 cap2 P0 R hR hl c1 c2 => by
    refine ((play_tri n hl c1 c2).out _ R W (hp_allB.perm hR)).mono fun e w' ⟨v, L, he, ⟨hv, hL⟩, hh⟩ => ⟨by rw [he, hv], ?_⟩
    subst hL
    exact grew_of_hp hR hh fun x hx => hx
  obtain ⟨o1, len1, cap1, rfl, hl1, k1⟩ := callsW_of hv1 h1
  obtain ⟨o2, len2, cap2, rfl, hl2, k2⟩ := callsW_of hv2 h2
  rcases k1 with ⟨rfl, rfl⟩ | ⟨b1, T1, fz1, cs1, hb1, hC1⟩
  · rcases k2 with ⟨rfl, rfl⟩ | ⟨b2, T2, fz2, cs2, hb2, hC2⟩
    · exact key none none 0 cap1 0 cap2 [] (allB W) (List.Perm.refl _) hl1 (callsW_none _) (callsW_none _)
    · obtain ⟨R, hR⟩ := allB_one hb2
      exact key none o2 0 cap1 len2 cap2 [(b2, .cells cs2 T2 fz2)] R hR hl1 (callsW_none _) (hC2 _ (List.mem_singleton.2 rfl))
  · rcases k2 with ⟨rfl, rfl⟩ | ⟨b2, T2, fz2, cs2, hb2, hC2⟩
    · obtain ⟨R, hR⟩ := allB_one hb1
      exact key o1 none len1 cap1 0 cap2 [(b1, .cells cs1 T1 fz1)] R hR hl1 (hC1 _ (List.mem_singleton.2 rfl)) (callsW_none _)
    · by_cases he : b1 = b2
      · subst he
        have e : (Obj.cells cs1 T1 fz1) = .cells cs2 T2 fz2 := Option.some.inj (hb1.symm.trans hb2)
        obtain ⟨R, hR⟩ := allB_one hb1
        exact key o1 o2 len1 cap1 len2 cap2 [(b1, .cells cs1 T1 fz1)] R hR hl1 (hC1 _ (List.mem_singleton.2 rfl)) (hC2 _ (List.mem_singleton.2 (by rw [e])))
      · obtain ⟨R, hR⟩ := allB_two hb1 hb2 he
        exact key o1 o2 len1 cap1 len2 cap2 [(b1, .cells cs1 T1 fz1), (b2, .cells cs2 T2 fz2)] R hR hl1 (hC1 _ (by simp)) (hC2 _ (by simp))
end Go.Proofs.Ytbpioemenmahaaa
