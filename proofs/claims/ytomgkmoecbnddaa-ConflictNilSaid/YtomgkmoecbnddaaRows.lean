/-
  No cell of these rows narrows 'for every input' (looked for: loops, veiled, ifaces, maps, wideKeys, modest, calm, conditions, laid).
  DERIVED. THE GIVEN ROWS OF THIS SEAT. 6 by the template 'for every input the law returns true; each argument reads behind the call as it read before'; 0 by the template 'total and deterministic' (their statements: YtomgkmoecbnddaaTotals.lean).
  GIVEN WITH THE SEED: the statements are not yours to turn. If you find one false, say at which input.
  Laid BY PROGRAM, IN A SANDBOX (cutbox-rows.mjs): the forced cells as the released guide's own fill.sh prints them over the translation f081eab30a1020a8… (all of the seat's roots in one cut). By AI agents, Wed Nov 11 2026. No macro, syntax, notation, axiom, sorry.
-/
import Derived.Test.YtomgkmoecbnddaaChecked
import GoSem.Claim
import GoSem.ClaimJoined
import GoSem.ClaimMapViews
import Derived.JoinedTies
import Derived.KernelRfl
namespace Go.Proofs.Ytomgkmoecbnddaa
/- THE CELL 'sum', in the pinned program and in every row, IS THE sha256 OF THE DUMP (.gsa) THAT YtomgkmoecbnddaaProg.lean LOADS. Nothing in Lean hashes anything: it is a label: what it is worth is what the hold of that sum in a sandbox is worth. -/
noncomputable def Try.pinned : Pinned := { name := "ytomgkmoecbnddaa", sum := "f081eab30a1020a8713c02951f80292fd203c05bb8621f5fe468d5e3c0bbbe84", checked := Try.checked }
namespace Rows
def none {H : Type} : Left H := { results := [], args := [] }

/-- 'vintnerlaw12.ConflictAlone': WHATEVER THE INPUT: true; the input reads as it did. -/
def conflictAloneSpec : ChangeSpec := { name := "conflictAlone", fn := fun _ => fun
  | [d1, d2, d3] => { results := [.lit (.bool true)], args := [d1, d2, d3] }
  | _ => none }
def conflictAloneRow : OpenClaim := { program := "ytomgkmoecbnddaa", sum := "f081eab30a1020a8713c02951f80292fd203c05bb8621f5fe468d5e3c0bbbe84", func := "vintner/vintnerlaw12.ConflictAlone", spec := "conflictAlone", unfollowed := true, recurses := true, apart := false }
def ConflictAloneSaid : Prop := conflictAloneRow.holds Try.pinned (OpenSpec.ofChange conflictAloneSpec)

/-- ITS FALSE NEIGHBOUR: 'it returns false'. Refute it at one input. -/
def conflictAloneWrong : ChangeSpec := { name := "conflictAlone", fn := fun _ => fun
  | [d1, d2, d3] => { results := [.lit (.bool false)], args := [d1, d2, d3] }
  | _ => none }
def ConflictAloneWrongFalsely : Prop := conflictAloneRow.holds Try.pinned (OpenSpec.ofChange conflictAloneWrong)

/-- 'vintnerlaw12.ConflictSkew': WHATEVER THE INPUT: true; the input reads as it did. -/
def conflictSkewSpec : ChangeSpec := { name := "conflictSkew", fn := fun _ => fun
  | [d1, d2, d3] => { results := [.lit (.bool true)], args := [d1, d2, d3] }
  | _ => none }
def conflictSkewRow : OpenClaim := { program := "ytomgkmoecbnddaa", sum := "f081eab30a1020a8713c02951f80292fd203c05bb8621f5fe468d5e3c0bbbe84", func := "vintner/vintnerlaw12.ConflictSkew", spec := "conflictSkew", unfollowed := true, recurses := true, apart := false }
def ConflictSkewSaid : Prop := conflictSkewRow.holds Try.pinned (OpenSpec.ofChange conflictSkewSpec)

/-- ITS FALSE NEIGHBOUR: 'it returns false'. Refute it at one input. -/
def conflictSkewWrong : ChangeSpec := { name := "conflictSkew", fn := fun _ => fun
  | [d1, d2, d3] => { results := [.lit (.bool false)], args := [d1, d2, d3] }
  | _ => none }
def ConflictSkewWrongFalsely : Prop := conflictSkewRow.holds Try.pinned (OpenSpec.ofChange conflictSkewWrong)

/-- 'vintnerlaw12.ConflictAsked': WHATEVER THE INPUT: true; the input reads as it did. -/
def conflictAskedSpec : ChangeSpec := { name := "conflictAsked", fn := fun _ => fun
  | [d] => { results := [.lit (.bool true)], args := [d] }
  | _ => none }
def conflictAskedRow : OpenClaim := { program := "ytomgkmoecbnddaa", sum := "f081eab30a1020a8713c02951f80292fd203c05bb8621f5fe468d5e3c0bbbe84", func := "vintner/vintnerlaw12.ConflictAsked", spec := "conflictAsked", unfollowed := true, recurses := true, apart := false }
def ConflictAskedSaid : Prop := conflictAskedRow.holds Try.pinned (OpenSpec.ofChange conflictAskedSpec)

/-- ITS FALSE NEIGHBOUR: 'it returns false'. Refute it at one input. -/
def conflictAskedWrong : ChangeSpec := { name := "conflictAsked", fn := fun _ => fun
  | [d] => { results := [.lit (.bool false)], args := [d] }
  | _ => none }
def ConflictAskedWrongFalsely : Prop := conflictAskedRow.holds Try.pinned (OpenSpec.ofChange conflictAskedWrong)

/-- 'vintnerlaw12.ConflictSafe': WHATEVER THE INPUT: true; the input reads as it did. -/
def conflictSafeSpec : ChangeSpec := { name := "conflictSafe", fn := fun _ => fun
  | [d1, d2, d3] => { results := [.lit (.bool true)], args := [d1, d2, d3] }
  | _ => none }
def conflictSafeRow : OpenClaim := { program := "ytomgkmoecbnddaa", sum := "f081eab30a1020a8713c02951f80292fd203c05bb8621f5fe468d5e3c0bbbe84", func := "vintner/vintnerlaw12.ConflictSafe", spec := "conflictSafe", unfollowed := true, recurses := true, apart := false }
def ConflictSafeSaid : Prop := conflictSafeRow.holds Try.pinned (OpenSpec.ofChange conflictSafeSpec)

/-- ITS FALSE NEIGHBOUR: 'it returns false'. Refute it at one input. -/
def conflictSafeWrong : ChangeSpec := { name := "conflictSafe", fn := fun _ => fun
  | [d1, d2, d3] => { results := [.lit (.bool false)], args := [d1, d2, d3] }
  | _ => none }
def ConflictSafeWrongFalsely : Prop := conflictSafeRow.holds Try.pinned (OpenSpec.ofChange conflictSafeWrong)

/-- 'vintnerlaw12.ConflictKeeps': WHATEVER THE INPUT: true; the input reads as it did. -/
def conflictKeepsSpec : ChangeSpec := { name := "conflictKeeps", fn := fun _ => fun
  | [d1, d2] => { results := [.lit (.bool true)], args := [d1, d2] }
  | _ => none }
def conflictKeepsRow : OpenClaim := { program := "ytomgkmoecbnddaa", sum := "f081eab30a1020a8713c02951f80292fd203c05bb8621f5fe468d5e3c0bbbe84", func := "vintner/vintnerlaw12.ConflictKeeps", spec := "conflictKeeps", unfollowed := true, recurses := true, apart := false }
def ConflictKeepsSaid : Prop := conflictKeepsRow.holds Try.pinned (OpenSpec.ofChange conflictKeepsSpec)

/-- ITS FALSE NEIGHBOUR: 'it returns false'. Refute it at one input. -/
def conflictKeepsWrong : ChangeSpec := { name := "conflictKeeps", fn := fun _ => fun
  | [d1, d2] => { results := [.lit (.bool false)], args := [d1, d2] }
  | _ => none }
def ConflictKeepsWrongFalsely : Prop := conflictKeepsRow.holds Try.pinned (OpenSpec.ofChange conflictKeepsWrong)

/-- 'vintnerlaw12.ConflictNil': WHATEVER THE INPUT: true; the input reads as it did. -/
def conflictNilSpec : ChangeSpec := { name := "conflictNil", fn := fun _ => fun
  | [d] => { results := [.lit (.bool true)], args := [d] }
  | _ => none }
def conflictNilRow : OpenClaim := { program := "ytomgkmoecbnddaa", sum := "f081eab30a1020a8713c02951f80292fd203c05bb8621f5fe468d5e3c0bbbe84", func := "vintner/vintnerlaw12.ConflictNil", spec := "conflictNil", unfollowed := true, recurses := true, apart := false }
def ConflictNilSaid : Prop := conflictNilRow.holds Try.pinned (OpenSpec.ofChange conflictNilSpec)

/-- ITS FALSE NEIGHBOUR: 'it returns false'. Refute it at one input. -/
def conflictNilWrong : ChangeSpec := { name := "conflictNil", fn := fun _ => fun
  | [d] => { results := [.lit (.bool false)], args := [d] }
  | _ => none }
def ConflictNilWrongFalsely : Prop := conflictNilRow.holds Try.pinned (OpenSpec.ofChange conflictNilWrong)

/- THE SECOND FORM. 'bulk': how many values and letters a reading holds, each counted each time it is reached (what is shared counts as often as it is met; a slice's spare places count too). A statement '..UptoSaid' is the law's where the arguments, and the package variables that the reading takes, are together of bulk at most 1048576: NARROWER than '..Said'. Prove '..Said' where nothing that the law and all that it calls make is longer than what came in: it says more and counts as full. Else prove '..UptoSaid'. A law counts once. -/
mutual
def uptoBulk {H : Type} : DataW H → Nat
  | .lit (.string bytes) => bytes.length + 1
  | .lit _ => 1
  | .nil => 1
  | .ptr d => uptoBulk d + 1
  | .slice elems spare => uptoBulkAll elems + uptoBulkAll spare + 1
  | .agg parts => uptoBulkAll parts + 1
  | .iface _ d => uptoBulk d + 1
  | .map entries => uptoBulkEntries entries + 1
  | .held _ => 1
def uptoBulkAll {H : Type} : List (DataW H) → Nat
  | [] => 0
  | d :: r => uptoBulk d + uptoBulkAll r
def uptoBulkEntries {H : Type} : List (Lit × DataW H) → Nat
  | [] => 0
  | x :: r => uptoBulkEntry x + uptoBulkEntries r
def uptoBulkEntry {H : Type} : Lit × DataW H → Nat
  | (.string bytes, d) => bytes.length + uptoBulk d + 1
  | (_, d) => uptoBulk d + 1
 end
def uptoSmall : (H : Type) → List (DataW H) → Bool := fun _ ds => decide (uptoBulkAll ds ≤ 1048576)
def OpenSpec.upto (s : _root_.Go.ChangeSpec) : _root_.Go.OpenSpec := { _root_.Go.OpenSpec.ofChange s with cond := some uptoSmall }

/-- 'vintnerlaw12.ConflictAlone', WHERE WHAT IT READS IS OF BULK AT MOST 1048576: true; the input reads as it did. -/
def conflictAloneUptoRow : OpenClaim := { program := "ytomgkmoecbnddaa", sum := "f081eab30a1020a8713c02951f80292fd203c05bb8621f5fe468d5e3c0bbbe84", func := "vintner/vintnerlaw12.ConflictAlone", spec := "conflictAlone", unfollowed := true, recurses := true, apart := false, narrowed := true }
def ConflictAloneUptoSaid : Prop := conflictAloneUptoRow.holds Try.pinned (OpenSpec.upto conflictAloneSpec)

/-- 'vintnerlaw12.ConflictSkew', WHERE WHAT IT READS IS OF BULK AT MOST 1048576: true; the input reads as it did. -/
def conflictSkewUptoRow : OpenClaim := { program := "ytomgkmoecbnddaa", sum := "f081eab30a1020a8713c02951f80292fd203c05bb8621f5fe468d5e3c0bbbe84", func := "vintner/vintnerlaw12.ConflictSkew", spec := "conflictSkew", unfollowed := true, recurses := true, apart := false, narrowed := true }
def ConflictSkewUptoSaid : Prop := conflictSkewUptoRow.holds Try.pinned (OpenSpec.upto conflictSkewSpec)

/-- 'vintnerlaw12.ConflictAsked', WHERE WHAT IT READS IS OF BULK AT MOST 1048576: true; the input reads as it did. -/
def conflictAskedUptoRow : OpenClaim := { program := "ytomgkmoecbnddaa", sum := "f081eab30a1020a8713c02951f80292fd203c05bb8621f5fe468d5e3c0bbbe84", func := "vintner/vintnerlaw12.ConflictAsked", spec := "conflictAsked", unfollowed := true, recurses := true, apart := false, narrowed := true }
def ConflictAskedUptoSaid : Prop := conflictAskedUptoRow.holds Try.pinned (OpenSpec.upto conflictAskedSpec)

/-- 'vintnerlaw12.ConflictSafe', WHERE WHAT IT READS IS OF BULK AT MOST 1048576: true; the input reads as it did. -/
def conflictSafeUptoRow : OpenClaim := { program := "ytomgkmoecbnddaa", sum := "f081eab30a1020a8713c02951f80292fd203c05bb8621f5fe468d5e3c0bbbe84", func := "vintner/vintnerlaw12.ConflictSafe", spec := "conflictSafe", unfollowed := true, recurses := true, apart := false, narrowed := true }
def ConflictSafeUptoSaid : Prop := conflictSafeUptoRow.holds Try.pinned (OpenSpec.upto conflictSafeSpec)

/-- 'vintnerlaw12.ConflictKeeps', WHERE WHAT IT READS IS OF BULK AT MOST 1048576: true; the input reads as it did. -/
def conflictKeepsUptoRow : OpenClaim := { program := "ytomgkmoecbnddaa", sum := "f081eab30a1020a8713c02951f80292fd203c05bb8621f5fe468d5e3c0bbbe84", func := "vintner/vintnerlaw12.ConflictKeeps", spec := "conflictKeeps", unfollowed := true, recurses := true, apart := false, narrowed := true }
def ConflictKeepsUptoSaid : Prop := conflictKeepsUptoRow.holds Try.pinned (OpenSpec.upto conflictKeepsSpec)

/-- 'vintnerlaw12.ConflictNil', WHERE WHAT IT READS IS OF BULK AT MOST 1048576: true; the input reads as it did. -/
def conflictNilUptoRow : OpenClaim := { program := "ytomgkmoecbnddaa", sum := "f081eab30a1020a8713c02951f80292fd203c05bb8621f5fe468d5e3c0bbbe84", func := "vintner/vintnerlaw12.ConflictNil", spec := "conflictNil", unfollowed := true, recurses := true, apart := false, narrowed := true }
def ConflictNilUptoSaid : Prop := conflictNilUptoRow.holds Try.pinned (OpenSpec.upto conflictNilSpec)

end Rows
end Go.Proofs.Ytomgkmoecbnddaa
