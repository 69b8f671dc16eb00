/- RcG: operands; what is asked of an operation's closure. -/
import Derived.Test.YtomgkmoecbnddaaRcF
set_option linter.unusedVariables false
set_option linter.unusedSimpArgs false
set_option linter.unnecessarySimpa false
namespace Go.Rc
open Go Go.Sym

structure GOk (n : Nat) (x : Operand) (g : G) : Prop where
  ex : ∃ val : T → V, (∀ fr k, g fr k = true → k (val fr) = true) ∧ ∀ σ fr a, FrOk σ n fr a → Rel σ (val fr) (a.eval x)
theorem strK_t : ∀ {l : List UInt8} {k : Nat → Nat → Bool}, strK l k = true → k (strNum l) l.length = true
  | [], k, h => h
  | b :: l, k, h => by
    have h : strK l (fun a n => fN (Nat.add b.toNat (Nat.mul 256 a)) fun a' => fN (Nat.succ n) fun n' => k a' n') = true := h
    have h2 := strK_t h
    rw [fN_eq, fN_eq] at h2
    exact h2
theorem scK_t {v : Value} {k : V → Bool} (h : scK v k = true) : ∃ a, k a = true ∧ (∀ σ, Rel σ a v) ∧ v.cells = #[v] := by
  unfold scK at h
  split at h
  · exact ⟨_, h, fun σ => by unfold vBool; rename_i b; exact .bool (by cases b <;> rfl), rfl⟩
  · rename_i q a
    obtain ⟨h1, h2⟩ := bi_f h
    have h1 := blt_t h1
    exact ⟨_, h2, fun σ => .int rfl (Nat.lt_of_lt_of_le h1 (khf_le q)) (wrap_small h1).symm, rfl⟩
  · rename_i q a
    obtain ⟨h1, h2⟩ := bi_f h
    rw [fN_eq] at h2
    have h1 : a < kmod q - khf q := blt_t h1
    have h3 : kmod q - 1 - a < kmod q := by omega
    refine ⟨_, h2, fun σ => .int rfl h3 ?_, rfl⟩
    show Int.negSucc a = q.wrap ((kmod q - 1 - a : Nat) : Int)
    rw [wrap_big h3 (by omega), Int.negSucc_eq]; omega
  · have h2 := strK_t h
    refine ⟨_, h2, fun σ => .str (by rw [ByteArray.toList_eq]) (by rw [ByteArray.toList_eq]; rfl), rfl⟩
  · exact ⟨_, h, fun σ => .nilp, rfl⟩
  · exact ⟨_, h, fun σ => .nils, rfl⟩
  · exact ⟨_, h, fun σ => .nilm, rfl⟩
  · exact ⟨_, h, fun σ => .nilf, rfl⟩
  · exact ⟨_, h, fun σ => .nili, rfl⟩
  · cases h
theorem scLK_t : ∀ {l : List Value} {k : V → Bool}, scLK l k = true → ∃ a, k a = true ∧ ∀ σ, RelL σ a l
  | [], k, h => ⟨.n, h, fun _ => .nil⟩
  | v :: l, k, h => by
    obtain ⟨a, h1, h2, _⟩ := scK_t (v := v) (k := fun a => scLK l fun q => k (vCons a q)) h
    obtain ⟨q, h3, h4⟩ := scLK_t h1
    exact ⟨_, h3, fun σ => .cons (h2 σ) (h4 σ)⟩
theorem avK_t {v : Value} {k : V → Bool} (h : avK v k = true) : ∃ a, k a = true ∧ ∀ σ, Rel σ a v := by
  unfold avK at h
  split at h
  · obtain ⟨a, h1, h2⟩ := scLK_t h
    exact ⟨_, h1, fun σ => by have := Rel.agg (a := 0) (b := 0) (d := 0) (p := .h) (r := .n) (h2 σ); simpa [vAgg] using this⟩
  · obtain ⟨a, h1, h2⟩ := scLK_t h
    exact ⟨_, h1, fun σ => by have := Rel.tup (a := 0) (b := 0) (d := 0) (p := .h) (r := .n) (h2 σ); simpa [vTup] using this⟩
  · obtain ⟨a, h1, h2, _⟩ := scK_t h
    exact ⟨a, h1, h2⟩
theorem opdK_t {n : Nat} {x : Operand} {k : G → Bool} (h : opdK n x k = true) : ∃ g, GOk n x g ∧ k g = true := by
  cases x with
  | tmp t =>
    obtain ⟨h1, h2⟩ := bi_f (b := Nat.blt t n) h
    rw [posK_eq, gPosK_eq] at h2
    exact ⟨_, ⟨T.at (posOf t), fun fr k h => gPos_t _ h, fun σ fr a hf => hf.get t⟩, h2⟩
  | const v =>
    obtain ⟨a, h1, h2⟩ := avK_t (k := fun a => k (gC a)) h
    exact ⟨_, ⟨fun _ => a, fun fr k h => h, fun σ fr _ _ => h2 σ⟩, h1⟩
  | global g => cases h
  | func f =>
    have h : posK f (fun p => k (gC (vFn p .n .n))) = true := h
    rw [posK_eq] at h
    exact ⟨_, ⟨fun _ => vFn (posOf f) .n .n, fun fr k h => h, fun σ fr _ _ => .fn (fl := []) (cl := []) rfl .nil .nil⟩, h⟩
/-- operands, all of a list -/
inductive GsOk (n : Nat) : List Operand → List G → Prop
  | nil : GsOk n [] []
  | cons {x g xs gs} (h : GOk n x g) (h2 : GsOk n xs gs) : GsOk n (x :: xs) (g :: gs)
theorem opdsK_t {n : Nat} : ∀ {l : List Operand} {k : List G → Bool}, opdsK n l k = true → ∃ gs, GsOk n l gs ∧ k gs = true
  | [], k, h => ⟨[], .nil, h⟩
  | x :: l, k, h => by
    obtain ⟨g, h1, h2⟩ := opdK_t (x := x) (k := fun g => opdsK n l fun r => k (g :: r)) h
    obtain ⟨gs, h3, h4⟩ := opdsK_t h2
    exact ⟨_, .cons h1 h3, h4⟩
def GoOk (n : Nat) (x : Option Operand) (g : Option G) : Prop := (x = none ∧ g = none) ∨ ∃ y r, x = some y ∧ g = some r ∧ GOk n y r
theorem opdoK_t {n : Nat} {x : Option Operand} {k : Option G → Bool} (h : opdoK n x k = true) : ∃ g, GoOk n x g ∧ k g = true := by
  cases x with
  | none => exact ⟨none, .inl ⟨rfl, rfl⟩, h⟩
  | some x =>
    obtain ⟨g, h1, h2⟩ := opdK_t (x := x) (k := fun g => k (some g)) h
    exact ⟨_, .inr ⟨x, g, rfl, rfl, h1⟩, h2⟩
theorem evsK_t {n : Nat} {xs : List Operand} {gs : List G} (hg : GsOk n xs gs) : ∀ {fr : T} {k : V → Bool}, evsK fr gs k = true → ∃ q, k q = true ∧ ∀ σ a, FrOk σ n fr a → RelL σ q (xs.map a.eval) := by
  induction hg with
  | nil => intro fr k h; exact ⟨.n, h, fun _ _ _ => .nil⟩
  | cons hx _ ih =>
    intro fr k h
    obtain ⟨val, h1, h2⟩ := hx.ex
    obtain ⟨q, h3, h4⟩ := ih (h1 _ _ h)
    exact ⟨_, h3, fun σ a hf => .cons (h2 σ fr a hf) (h4 σ a hf)⟩

/-! ### what an operation's closure must do -/
def Rounds (P : Program) (l : Nat) (g : FuncId) (tm : Array Value) (ac bd : Code) (w : World) (Φ : Value → World → Prop) : Prop :=
  ∀ (c : Frame) (cs : List Frame), ∃ x w', Φ x w' ∧ Steps P (lone (Frame.round l g tm ac bd .normal) (c :: cs) w) (lone (c.finish x) cs w')
def YRes (P : Program) (l : Nat) (vals : List Value) (w : World) (Φ : Value → World → Prop) : Prop :=
  ∃ g tm ac bd, (Instr.yield l vals.toArray).run P w = .ok (.round l g tm ac bd) w ∧ Rounds P l g tm ac bd w Φ
/-- what a result, and what follows, may be -/
def Good (P : Program) (E : Env) (R : List Blk) (σ : Sg) (h : Hp) (w : World) (k : K1) (x : Value) (w' : World) : Prop := ∃ v σ' h', k v h' = true ∧ Rel σ' v x ∧ Step P E R σ h w σ' h' w'
def RbOk (P : Program) (rb : RB) (σ : Sg) : Prop := ∀ τ E R l args h k w vals, Ext σ τ → rb l args h k = true → HR P E R τ h w → RelL τ args vals →
  ∃ bl c, σ l = some (bl, c) ∧ YRes P bl vals w (Good P E R τ h w k)
theorem RbOk.mono {P : Program} {rb : RB} {σ τ : Sg} (h : RbOk P rb σ) (hs : Ext σ τ) : RbOk P rb τ := fun υ E R l args hp k w vals h1 h2 h3 h4 => by
  obtain ⟨bl, c, h5, h6⟩ := h υ E R l args hp k w vals (hs.trans h1) h2 h3 h4
  exact ⟨bl, c, hs _ _ h5, h6⟩
theorem RbOk.no (P : Program) (σ : Sg) : RbOk P noRb σ := fun _ _ _ _ _ _ _ _ _ _ h => by cases h
def CfOk (P : Program) (cf : Cf) : Prop := ∀ rb g args h k E R σ w vals, cf rb g args h k = true → RbOk P rb σ → HR P E R σ h w → RelL σ args vals →
  ∃ gi, g = posOf gi ∧ (∀ args w, (callFunc gi args).run P w = .ok (.enter gi args) w) ∧ Calls P gi vals.toArray w fun e w' => ∃ x, e = .returned x ∧ Good P E R σ h w k x w'
/-- carried out without a round -/
def OpW (P : Program) (o : Oper) (a : Act) (w : World) (Φ : Value → World → Prop) : Prop :=
  (∃ x w', (execOp a.eval o).run P w = .ok (.value x) w' ∧ Φ x w') ∨ (∃ w', (execOp a.eval o).run P w = .ok .skip w' ∧ Φ undef w') ∨
  (∃ g args w1, (execOp a.eval o).run P w = .ok (.enter g args) w1 ∧ Calls P g args w1 fun e w' => ∃ x, e = .returned x ∧ Φ x w')
def OpR (P : Program) (o : Oper) (a : Act) (w : World) (Φ : Value → World → Prop) : Prop :=
  OpW P o a w Φ ∨ ∃ l g tm ac bd, (execOp a.eval o).run P w = .ok (.round l g tm ac bd) w ∧ Rounds P l g tm ac bd w Φ
structure WOk (P : Program) (n : Nat) (op : Op) (f : OpF) : Prop where
  ok : ∀ cf rb fr h k E R σ a w o, o.op = op → CfOk P cf → RbOk P rb σ → f cf rb fr h k = true → FrOk σ n fr a → HR P E R σ h w → OpW P o a w (Good P E R σ h w k)
structure OOp (P : Program) (n : Nat) (op : Op) (f : OpF) : Prop where
  ok : ∀ cf rb fr h k E R σ a w o, o.op = op → CfOk P cf → RbOk P rb σ → f cf rb fr h k = true → FrOk σ n fr a → HR P E R σ h w → OpR P o a w (Good P E R σ h w k)
theorem WOk.o {P : Program} {n : Nat} {op : Op} {f : OpF} (h : WOk P n op f) : OOp P n op f := ⟨fun cf rb fr hp k E R σ a w o h1 h2 h3 h4 h5 h6 => .inl (h.ok cf rb fr hp k E R σ a w o h1 h2 h3 h4 h5 h6)⟩
/-- the blocks that are read -/
def ReadsSame (rn : T → Pos → Prop) (σ : Sg) (fr : T) (h : Hp) (w w' : World) : Prop := ∀ p b c, rn fr p → Live h p → σ p = some (b, c) → w'.heap[b]? = w.heap[b]?
structure QOk (P : Program) (n : Nat) (op : Op) (f : OpF) (rn : T → Pos → Prop) : Prop where
  ok : ∀ cf rb fr h k E R σ a w, f cf rb fr h k = true → FrOk σ n fr a → HR P E R σ h w → ∃ v x, k v h = true ∧ Rel σ v x ∧ ∀ w' (o : Oper), o.op = op → ReadsSame rn σ fr h w w' → (execOp a.eval o).run P w' = .ok (.value x) w'
theorem QOk.w {P : Program} {n : Nat} {op : Op} {f : OpF} {rn : T → Pos → Prop} (h : QOk P n op f rn) : WOk P n op f := ⟨fun cf rb fr hp k E R σ a w o h1 _ _ h4 h5 h6 => by
  obtain ⟨v, x, h7, h8, h9⟩ := h.ok cf rb fr hp k E R σ a w h4 h5 h6
  exact .inl ⟨x, w, h9 w o h1 (fun _ _ _ _ _ _ => rfl), v, σ, hp, h7, h8, .refl h6⟩⟩
def noRn : T → Pos → Prop := fun _ _ => False
/-- the block that the value of an operand names -/
def valRn (val : T → V) : T → Pos → Prop := fun fr p => ∃ t a b d l r, val fr = .c t a b d p l r
end Go.Rc
