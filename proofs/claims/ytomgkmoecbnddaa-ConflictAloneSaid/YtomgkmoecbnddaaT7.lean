/- Conflict: the star of ConflictAlone: plain. -/
import Derived.Test.YtomgkmoecbnddaaT6
set_option linter.unusedVariables false
set_option linter.unusedSimpArgs false
set_option linter.unnecessarySimpa false
namespace Go.Proofs.Ytomgkmoecbnddaa
open Go.Sym

/-- k have begun -/
def sB (m : Int) : Nat → Gr
  | 0 => Gr.new m
  | k + 1 => (sB m k).beginQ ((k + 1 : Nat) : Int) false
def sX (s : Int) (k : Nat) : Int := 1 + s * ((k + 1 : Nat) : Int)
/-- k edges are drawn -/
def sE (m : Int) (fr : Bool) : Nat → Gr
  | 0 => sB m 7
  | k + 1 =>
    let g := (sE m fr k).edgeG 1 ((k + 2 : Nat) : Int)
    if fr = true then ((g.abortQ 1).beginQ ((k + 10 : Nat) : Int) false).edgeG ((k + 2 : Nat) : Int) ((k + 10 : Nat) : Int) else g
/-- what the last edge of a round answers -/
def sR (m s : Int) (fr : Bool) (k : Nat) : Int :=
  if fr = true then ((((sE m fr k).edgeG 1 ((k + 2 : Nat) : Int)).abortQ 1).beginQ ((k + 10 : Nat) : Int) false).edgeR ((k + 2 : Nat) : Int) ((k + 10 : Nat) : Int) ((k + 2 : Nat) : Int)
  else (sE m fr k).edgeR 1 ((k + 2 : Nat) : Int) (sX s k)
/-- k have ended -/
def sC (m : Int) (fr : Bool) : Nat → Gr
  | 0 => sE m fr 6
  | k + 1 => ((sC m fr k).checkQ ((7 - k : Nat) : Int)).2.commitQ ((7 - k : Nat) : Int)
def okE (m s : Int) (fr : Bool) : Bool := (List.range 6).all fun k => decide (sR m s fr k = 0)
def okC (m : Int) (fr : Bool) : Bool := (List.range 6).all fun k => decide (((sC m fr k).checkQ ((7 - k : Nat) : Int)).1 = 0)
theorem okE_all : (okE 0 0 false && okE 0 1 false && okE 1 0 false && okE 1 1 false && okE 2 0 false && okE 2 1 false && okE 0 0 true && okE 0 1 true && okE 1 0 true && okE 1 1 true && okE 2 0 true && okE 2 1 true) = true := by kernel_rfl
theorem okC_all : (okC 0 false && okC 1 false && okC 2 false && okC 0 true && okC 1 true && okC 2 true) = true := by kernel_rfl
theorem sB0 (m : Int) : sB m 0 = Gr.new m := rfl
theorem sBS (m : Int) (k : Nat) : sB m (k + 1) = (sB m k).beginQ ((k + 1 : Nat) : Int) false := rfl
theorem sE0 (m : Int) (fb : Bool) : sE m fb 0 = sB m 7 := rfl
theorem sEF (m : Int) (k : Nat) : sE m false (k + 1) = (sE m false k).edgeG 1 ((k + 2 : Nat) : Int) := rfl
theorem sET (m : Int) (k : Nat) : sE m true (k + 1) = ((((sE m true k).edgeG 1 ((k + 2 : Nat) : Int)).abortQ 1).beginQ ((k + 10 : Nat) : Int) false).edgeG ((k + 2 : Nat) : Int) ((k + 10 : Nat) : Int) := rfl
theorem sC0 (m : Int) (fb : Bool) : sC m fb 0 = sE m fb 6 := rfl
theorem sCS (m : Int) (fb : Bool) (k : Nat) : sC m fb (k + 1) = ((sC m fb k).checkQ ((7 - k : Nat) : Int)).2.commitQ ((7 - k : Nat) : Int) := rfl
attribute [irreducible] sB sE sC sR
theorem okE_get {m s : Int} {fb : Bool} (h1 : okE m s fb = true) {k : Nat} (h : k < 6) : sR m s fb k = 0 := of_decide_eq_true (List.all_eq_true.1 h1 k (List.mem_range.2 h))
theorem okC_get {m : Int} {fb : Bool} (h1 : okC m fb = true) {k : Nat} (h : k < 6) : ((sC m fb k).checkQ ((7 - k : Nat) : Int)).1 = 0 := of_decide_eq_true (List.all_eq_true.1 h1 k (List.mem_range.2 h))
attribute [irreducible] okE okC
theorem okE_at {m s : Int} {fb : Bool} (hm : m = 0 ∨ m = 1 ∨ m = 2) (hs : s = 0 ∨ s = 1) {k : Nat} (h : k < 6) : sR m s fb k = 0 := by
  refine okE_get ?_ h
  have h0 := okE_all
  simp only [Bool.and_eq_true] at h0
  obtain ⟨⟨⟨⟨⟨⟨⟨⟨⟨⟨⟨h1, h2⟩, h3⟩, h4⟩, h5⟩, h6⟩, h7⟩, h8⟩, h9⟩, h10⟩, h11⟩, h12⟩ := h0
  rcases hm with rfl | rfl | rfl <;> rcases hs with rfl | rfl <;> cases fb <;> assumption
theorem okC_at {m : Int} {fb : Bool} (hm : m = 0 ∨ m = 1 ∨ m = 2) {k : Nat} (h : k < 6) : ((sC m fb k).checkQ ((7 - k : Nat) : Int)).1 = 0 := by
  refine okC_get ?_ h
  have h0 := okC_all
  simp only [Bool.and_eq_true] at h0
  obtain ⟨⟨⟨⟨⟨h1, h2⟩, h3⟩, h4⟩, h5⟩, h6⟩ := h0
  rcases hm with rfl | rfl | rfl <;> cases fb <;> assumption
end Go.Proofs.Ytomgkmoecbnddaa
