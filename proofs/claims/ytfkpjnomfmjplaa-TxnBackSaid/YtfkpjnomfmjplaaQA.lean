/- Txn: rows of cells; slices that grow; parts of slices. Txn: the clock in plain words: what each function of the program computes. Txn: the clock's small functions. Txn: knows, live, above, State, Now, Age, Before. Txn: the clock's iterator. Txn: the clock's snapshot. Txn: the clock's descendants. Txn: the clock's End, Begin, Oldest, Freeze. slices.Index and slices.Contains over ints. Txn: the transaction manager in plain words: what each function of the program computes. Txn: what TxnHorizon says, in plain words. -/
import Derived.Test.YtfkpjnomfmjplaaAbb
import Derived.Test.YtfkpjnomfmjplaaFacts
import Derived.Test.YtfkpjnomfmjplaaRnd
set_option linter.unusedVariables false
set_option linter.unusedSimpArgs false
set_option linter.unnecessarySimpa false
namespace Go.Sym
open Go
theorem so_appR {P : Program} {E : Env} {n : Nat} {Q : SPost} {f : Nat → Value} {L : List Blk} {ops rest : List Oper} {x y : Operand} {t et ty : TypeId} {pos : String} {after : Array Edge} {d : Nat} {ag : Bool} {s by_ m c2 len cap b2 o2 : Nat} {p : Option Addr} {c : List Value} {T2 : TypeId} {fz : Nat × Nat} {xs ys z : List Value} {H R : List Blk} (hx : Ev f x (.slice p len cap)) (hy : Ev f y (.slice (some ⟨b2, o2, none⟩) m c2)) (hrow : Row et s (.slice p len cap) xs H) (hs : Sel L H R)
    (hm2 : (b2, .cells c.toArray T2 fz) ∈ L) (hyl : ys.length = m * s) (hyc : ∀ j, j < ys.length → c[o2 + j]? = ys[j]?)
    (ht : Und P t (.slice et)) (hT : tyOf P et = some (ag, s)) (hz : zeroOf P et = some z) (hzl : z.length = s) (hby : bytesT P et = some by_) (hb : (len + m) * by_ ≤ 140737488355328) (hlm : len + m ≤ 9223372036854775807) (hs1 : Nat.ble 1 s = true) (hone : ys.all (·.oneCell') = true) (hd : Nat.blt d n = true)
    (h : ∀ p' cap' H', Row et s (.slice p' (len + m) cap') (xs ++ ys) H' → SO P E n ops Q rest (upd f d (.slice p' (len + m) cap')) (H' ++ R)) :
    SO P E n ops Q (⟨some d, .call ⟨.builtin .append, #[x, y], #[t, t]⟩, ty, pos, after, none⟩ :: rest) f L := by
  have hs2 : 1 ≤ s := Nat.le_of_ble_eq_true hs1
  have hxl : xs.length = len * s := by
    cases hrow with
    | nil => simp
    | row h1 _ => exact h1
  refine so_append hx hy hrow hs hm2 hyl hyc ht hT hz hzl hby hb hlm hs1 hone hd fun v' H' hr' hn' => ?_
  have hl : (xs ++ ys).length = (len + m) * s := by rw [List.length_append, hxl, hyl, Nat.add_mul]
  generalize hX : xs ++ ys = X at *
  cases hr' with
  | nil =>
    have : (len + m) * s = 0 := by rw [← hl]; rfl
    have h0 : len + m = 0 := by
      rcases Nat.mul_eq_zero.1 this with h | h
      · exact h
      · omega
    have := h none 0 [] (by rw [h0]; exact .nil)
    rw [h0] at this
    exact this
  | row h1 h2 =>
    rename_i b len' cap' junk
    have : len' = len + m := Nat.eq_of_mul_eq_mul_right (by omega) (h1.symm.trans hl)
    subst this
    exact h _ _ _ (.row h1 h2)
end Go.Sym
namespace Go.Proofs.Ytfkpjnomfmjplaa
open Go.Sym
/-- a slice of ints in memory -/
def SlI (zs : List Int) (v : Value) (B : List Blk) : Prop := ∃ p cap, v = .slice p zs.length cap ∧ Row 3 1 v (zs.map (Value.int .i64)) B
theorem SlI.empty : SlI [] (.slice none 0 0) [] := ⟨_, _, rfl, .nil⟩
/-- a block alone, or none -/
theorem SlI.cases {zs : List Int} {v : Value} {B : List Blk} (h : SlI zs v B) : (zs = [] ∧ v = .slice none 0 0 ∧ B = []) ∨ ∃ b cap junk, v = .slice (some ⟨b, 0, none⟩) zs.length cap ∧ (zs.map (Value.int .i64) ++ junk).length = cap * 1 ∧ B = [(b, .cells (zs.map (Value.int .i64) ++ junk).toArray 3)] := by
  obtain ⟨p, cap, hv, hr⟩ := h
  generalize hX : zs.map (Value.int .i64) = X at *
  cases hr with
  | nil => exact .inl ⟨by simpa using hX, rfl, rfl⟩
  | row h1 h2 =>
    injection hv with e1 e2 e3
    subst e1 e2 e3
    exact .inr ⟨_, _, _, rfl, h2, rfl⟩
theorem zs_nth {zs : List Int} {junk : List Value} {i : Nat} (h : i < zs.length) : (zs.map (Value.int .i64) ++ junk)[0 + i * 1]? = some (.int .i64 zs[i]) := by
  rw [Nat.zero_add, Nat.mul_one, List.getElem?_append_left (by simpa using h)]
  simp [List.getElem?_map, List.getElem?_eq_getElem h]
/-- a number is appended -/
theorem so_appI {E : Env} {n : Nat} {Q : SPost} {f : Nat → Value} {L R : List Blk} {ops rest : List Oper} {x y : Operand} {ty : TypeId} {pos : String} {after : Array Edge} {d b2 cap : Nat} {o : Option Addr} {zs : List Int} {k : Int} {B : List Blk}
    (hx : Ev f x (.slice o zs.length cap)) (hy : Ev f y (.slice (some ⟨b2, 0, none⟩) 1 1)) (h1 : Row 3 1 (.slice o zs.length cap) (zs.map (Value.int .i64)) B) (hs : Sel L B R) (hm2 : (b2, .cells [Value.int .i64 k].toArray 3) ∈ L) (hb1 : zs.length ≤ 1000000000)
    (ht : Und Try.prog 36 (.slice 3)) (hT : tyOf Try.prog 3 = some (false, 1)) (hz : zeroOf Try.prog 3 = some [.int .i64 0]) (hby : bytesT Try.prog 3 = some 8) (hd : Nat.blt d n = true)
    (h : ∀ o' cap' B', Row 3 1 (.slice o' (zs ++ [k]).length cap') ((zs ++ [k]).map (Value.int .i64)) B' → SO Try.prog E n ops Q rest (upd f d (.slice o' (zs ++ [k]).length cap')) (B' ++ R)) : SO Try.prog E n ops Q (⟨some d, .call ⟨.builtin .append, #[x, y], #[36, 36]⟩, ty, pos, after, none⟩ :: rest) f L := by
  refine so_appR (ys := [Value.int .i64 k]) hx hy h1 hs hm2 rfl (fun j hj => by rw [Nat.zero_add]) ht hT hz rfl hby (by omega) (by omega) rfl rfl hd fun p' cap' H' hr' => ?_
  have e : zs.map (Value.int .i64) ++ [Value.int .i64 k] = (zs ++ [k]).map (Value.int .i64) := by rw [List.map_append]; rfl
  rw [e] at hr'
  have := h p' cap' H' (by rw [List.length_append]; exact hr')
  rw [List.length_append] at this
  exact this
end Go.Proofs.Ytfkpjnomfmjplaa
namespace Go.Proofs.Ytfkpjnomfmjplaa
open Go.Sym
def onR (x : Int) : Bool := decide (3 ≤ x) && decide (x < 128)
def stepsR (a b : Int) : Int := (b - a + 125) % 125
def nextR (x : Int) : Int := if onR x = false ∨ x = 127 then 3 else x + 1
structure Clk where
  low : Int
  next : Int
  st : Int → Int
  ab : Int → Int
def Clk.new (n : Int) : Clk := ⟨if onR n then n else 3, if onR n then n else 3, fun _ => 0, fun _ => 0⟩
def Clk.knows (c : Clk) (x : Int) : Bool := onR x && decide (stepsR c.low x < stepsR c.low c.next)
def Clk.live (c : Clk) (x : Int) : Bool := decide (c.st x = 1) || decide (c.st x = 4)
def Clk.above (c : Clk) (x : Int) : Int := if c.knows (c.ab x) then c.ab x else 0
/-- the xids from a on -/
def walkR (a : Int) : Nat → List Int
  | 0 => []
  | k + 1 => a :: walkR (nextR a) k
def Clk.all (c : Clk) : List Int := walkR c.low (stepsR c.low c.next).toNat
def Clk.belowStep (c : Clk) (x : Int) (out : List Int) (y : Int) : List Int := if y ≠ x ∧ c.above y ∈ x :: out then out ++ [y] else out
def Clk.below (c : Clk) (x : Int) : List Int := if c.knows x then c.all.foldl (c.belowStep x) [] else []
def Clk.setSt (c : Clk) (x s : Int) : Clk := { c with st := fun y => if y = x then s else c.st y }
def Clk.endStep (s : Int) (c : Clk) (y : Int) : Clk := if c.live y then c.setSt y s else c
/-- may x end in state s? -/
def Clk.ends (c : Clk) (x s : Int) : Bool := decide (2 ≤ s) && decide (s ≤ 4) && c.knows x && c.live x && decide (c.st x ≠ s)
def Clk.endAt (c : Clk) (x s : Int) : Clk := if c.ends x s then (c.below x ++ [x]).foldl (Clk.endStep s) c else c
def Clk.state (c : Clk) (x : Int) : Int := if x = 2 then 2 else if c.knows x then c.st x else 0
def Clk.bad (c : Clk) (a : Int) : Bool := decide (a ≠ 0) && (!c.knows a || decide (c.st a ≠ 1))
def Clk.full (c : Clk) : Bool := decide (60 ≤ stepsR c.low c.next)
def Clk.beginAt (c : Clk) (a : Int) : Clk := if c.bad a then c else if c.full then c else
  { low := c.low, next := nextR c.next, st := fun y => if y = c.next then 1 else c.st y, ab := fun y => if y = c.next then a else c.ab y }
def Clk.beginX (c : Clk) (a : Int) : Int := if c.bad a then 0 else if c.full then 0 else c.next
def Clk.beginE (c : Clk) (a : Int) : Int := if c.bad a then 1 else if c.full then 40 else 0
def Clk.lives (c : Clk) : List Int := c.all.filter c.live
/-- both ends on the ring -/
structure ClkOk (c : Clk) : Prop where
  low : onR c.low = true
  next : onR c.next = true
theorem onR_iff {x : Int} : onR x = true ↔ 3 ≤ x ∧ x < 128 := by unfold onR; simp
theorem stepsR_lt (a b : Int) : 0 ≤ stepsR a b ∧ stepsR a b < 125 := by unfold stepsR; omega
theorem onR_next (x : Int) : onR (nextR x) = true := by
  unfold nextR
  split
  · rfl
  · rename_i h
    rw [not_or, Bool.not_eq_false, onR_iff] at h
    rw [onR_iff]; omega
theorem nextR_of {x : Int} (h : onR x = true) : nextR x = 3 + (x - 2) % 125 := by
  rw [onR_iff] at h
  unfold nextR
  by_cases h1 : x = 127
  · rw [if_pos (.inr h1)]; omega
  · rw [if_neg (by rw [not_or, Bool.not_eq_false, onR_iff]; exact ⟨h, h1⟩)]; omega
theorem stepsR_next {a b : Int} (ha : onR a = true) (hb : onR b = true) (hne : a ≠ b) : stepsR a b = stepsR (nextR a) b + 1 := by
  rw [nextR_of ha]
  rw [onR_iff] at ha hb
  unfold stepsR; omega
theorem stepsR_self (a : Int) : stepsR a a = 0 := by unfold stepsR; omega
theorem walkR_len : ∀ (k : Nat) (a : Int), (walkR a k).length = k
  | 0, _ => rfl
  | k + 1, a => by unfold walkR; rw [List.length_cons, walkR_len k]
theorem walkR_on : ∀ (k : Nat) {a : Int}, onR a = true → ∀ x ∈ walkR a k, onR x = true
  | 0, _, _, x, h => by simp [walkR] at h
  | k + 1, a, ha, x, h => by
    unfold walkR at h
    rcases List.mem_cons.1 h with rfl | h
    · exact ha
    · exact walkR_on k (onR_next a) x h
theorem ClkOk.all_on {c : Clk} (h : ClkOk c) : ∀ x ∈ c.all, onR x = true := walkR_on _ h.low
theorem all_len (c : Clk) : c.all.length ≤ 124 := by
  unfold Clk.all; rw [walkR_len]
  have := stepsR_lt c.low c.next; omega
theorem below_len (c : Clk) (x : Int) : ∀ (l out : List Int), (l.foldl (c.belowStep x) out).length ≤ out.length + l.length
  | [], out => by simp
  | y :: l, out => by
    rw [List.foldl_cons]
    have := below_len c x l (c.belowStep x out y)
    have h2 : (c.belowStep x out y).length ≤ out.length + 1 := by unfold Clk.belowStep; split <;> simp
    simp; omega
theorem below_le (c : Clk) (x : Int) : (c.below x).length ≤ 124 := by
  unfold Clk.below
  split
  · have := below_len c x c.all []
    have := all_len c
    simp at *; omega
  · simp
theorem below_on {c : Clk} (h : ClkOk c) (x : Int) : ∀ y ∈ c.below x, onR y = true := by
  have key : ∀ (l out : List Int), (∀ y ∈ l, onR y = true) → (∀ y ∈ out, onR y = true) → ∀ y ∈ l.foldl (c.belowStep x) out, onR y = true := by
    intro l
    induction l with
    | nil => intro out _ ho y hy; exact ho y hy
    | cons z l ih =>
      intro out hl ho
      rw [List.foldl_cons]
      refine ih _ (fun y hy => hl y (List.mem_cons_of_mem _ hy)) ?_
      intro y hy
      unfold Clk.belowStep at hy
      split at hy
      · rcases List.mem_append.1 hy with h | h
        · exact ho y h
        · rw [List.mem_singleton] at h; subst h; exact hl y List.mem_cons_self
      · exact ho y hy
  unfold Clk.below
  split
  · exact key _ _ h.all_on (by simp)
  · simp
/-- the clock's 258 cells -/
def ckF (c : Clk) (i : Nat) : Value := if i = 0 then .int .i64 c.low else if i = 1 then .int .i64 c.next else if i % 2 = 0 then .int .i64 (c.st (((i - 2) / 2 : Nat) : Int)) else .int .i64 (c.ab (((i - 2) / 2 : Nat) : Int))
def ck (c : Clk) : List Value := (List.range 258).map (ckF c)
theorem ck_len (c : Clk) : (ck c).length = 258 := by unfold ck; simp
theorem ck_get (c : Clk) {k : Nat} (h : k < 258) : (ck c)[k]? = some (ckF c k) := by
  unfold ck
  rw [List.getElem?_map, List.getElem?_range h]; rfl
theorem ck_low (c : Clk) {k : Nat} (h : k = 0) : (ck c)[k]? = some (.int .i64 c.low) := by subst h; rw [ck_get c (by omega)]; rfl
theorem ck_next (c : Clk) {k : Nat} (h : k = 1) : (ck c)[k]? = some (.int .i64 c.next) := by subst h; rw [ck_get c (by omega)]; rfl
theorem ck_st (c : Clk) {k i : Nat} {x : Int} (hx : x = (i : Int)) (hi : i < 128) (h : k = 2 + i * 2) : (ck c)[k]? = some (.int .i64 (c.st x)) := by
  subst h hx
  rw [ck_get c (by omega)]
  unfold ckF
  rw [if_neg (by omega), if_neg (by omega), if_pos (by omega), show (2 + i * 2 - 2) / 2 = i by omega]
theorem ck_ab (c : Clk) {k i : Nat} {x : Int} (hx : x = (i : Int)) (hi : i < 128) (h : k = 2 + i * 2 + 1) : (ck c)[k]? = some (.int .i64 (c.ab x)) := by
  subst h hx
  rw [ck_get c (by omega)]
  unfold ckF
  rw [if_neg (by omega), if_neg (by omega), if_neg (by omega), show (2 + i * 2 + 1 - 2) / 2 = i by omega]
/-- some cells in a row turned -/
theorem ck_turn {c c' : Clk} {k : Nat} {r : List Value} (h : k + r.length ≤ 258) (h1 : ∀ j, j < r.length → r[j]? = some (ckF c' (k + j))) (h2 : ∀ i, i < 258 → i < k ∨ k + r.length ≤ i → ckF c' i = ckF c i) : ck c' = (ck c).take k ++ r ++ (ck c).drop (k + r.length) := by
  apply List.ext_getElem?
  intro i
  have hl : ((ck c).take k).length = k := by rw [List.length_take, ck_len]; omega
  by_cases hi : i < 258
  · rw [ck_get _ hi, List.append_assoc, List.getElem?_append, hl]
    by_cases h3 : i < k
    · rw [if_pos h3, List.getElem?_take_of_lt h3, ck_get _ hi, h2 i hi (.inl h3)]
    · rw [if_neg h3, List.getElem?_append]
      by_cases h4 : i - k < r.length
      · rw [if_pos h4, h1 _ h4, show k + (i - k) = i by omega]
      · rw [if_neg h4, List.getElem?_drop, show k + r.length + (i - k - r.length) = i by omega, ck_get _ hi, h2 i hi (.inr (by omega))]
  · have e1 : (ck c')[i]? = none := List.getElem?_eq_none (by rw [ck_len]; omega)
    rw [e1]
    symm
    apply List.getElem?_eq_none
    simp only [List.length_append, List.length_take, List.length_drop, ck_len]
    omega
theorem ck_setSt {c : Clk} {x s : Int} {i k : Nat} (hx : x = (i : Int)) (hi : i < 128) (hk : k = 2 + i * 2) : ck (c.setSt x s) = (ck c).take k ++ [.int .i64 s] ++ (ck c).drop (k + [Value.int .i64 s].length) := by
  subst hk hx
  refine ck_turn (by simp; omega) (fun j hj => ?_) fun j hj h => ?_
  · have : j = 0 := by simpa using hj
    subst this
    unfold ckF Clk.setSt
    rw [if_neg (by omega), if_neg (by omega), if_pos (by omega), show (2 + i * 2 + 0 - 2) / 2 = i by omega]
    simp
  · simp only [List.length_singleton] at h
    unfold ckF Clk.setSt
    by_cases h1 : j = 0
    · rw [if_pos h1, if_pos h1]
    · rw [if_neg h1, if_neg h1]
      by_cases h2 : j = 1
      · rw [if_pos h2, if_pos h2]
      · rw [if_neg h2, if_neg h2]
        by_cases h3 : j % 2 = 0
        · rw [if_pos h3, if_pos h3]
          have : ¬ (((j - 2) / 2 : Nat) : Int) = (i : Int) := by omega
          dsimp only
          rw [if_neg this]
        · rw [if_neg h3, if_neg h3]
/-- the cells once the next xid is begun: its two cells, then next -/
theorem ck_begin1 {c : Clk} {a : Int} {i k : Nat} (hx : c.next = (i : Int)) (hi : i < 128) (hk : k = 2 + i * 2) :
    ck { c with st := fun y => if y = c.next then 1 else c.st y, ab := fun y => if y = c.next then a else c.ab y } = (ck c).take k ++ [.int .i64 1, .int .i64 a] ++ (ck c).drop (k + [Value.int .i64 1, .int .i64 a].length) := by
  subst hk
  refine ck_turn (by simp; omega) (fun j hj => ?_) fun j hj h => ?_
  · have : j = 0 ∨ j = 1 := by simp at hj; omega
    unfold ckF
    rcases this with rfl | rfl
    · rw [if_neg (by omega), if_neg (by omega), if_pos (by omega), show (2 + i * 2 + 0 - 2) / 2 = i by omega, hx]
      simp
    · rw [if_neg (by omega), if_neg (by omega), if_neg (by omega), show (2 + i * 2 + 1 - 2) / 2 = i by omega, hx]
      simp
  · simp only [List.length_cons, List.length_nil] at h
    unfold ckF
    by_cases h1 : j = 0
    · rw [if_pos h1, if_pos h1]
    · rw [if_neg h1, if_neg h1]
      by_cases h2 : j = 1
      · rw [if_pos h2, if_pos h2]
      · rw [if_neg h2, if_neg h2]
        have : ¬ (((j - 2) / 2 : Nat) : Int) = c.next := by rw [hx]; omega
        dsimp only
        rw [if_neg this, if_neg this]
theorem ck_setNext {c : Clk} {n : Int} {k : Nat} (hk : k = 1) : ck { c with next := n } = (ck c).take k ++ [.int .i64 n] ++ (ck c).drop (k + [Value.int .i64 n].length) := by
  subst hk
  refine ck_turn (by simp) (fun j hj => ?_) fun j hj h => ?_
  · have : j = 0 := by simpa using hj
    subst this; rfl
  · simp only [List.length_singleton] at h
    unfold ckF
    by_cases h1 : j = 0
    · rw [if_pos h1, if_pos h1]
    · rw [if_neg h1, if_neg h1, if_neg (c := j = 1) (by omega), if_neg (c := j = 1) (by omega)]
theorem ck_setLow {c : Clk} {n : Int} {k : Nat} (hk : k = 0) : ck { c with low := n } = (ck c).take k ++ [.int .i64 n] ++ (ck c).drop (k + [Value.int .i64 n].length) := by
  subst hk
  refine ck_turn (by simp) (fun j hj => ?_) fun j hj h => ?_
  · have : j = 0 := by simpa using hj
    subst this; rfl
  · simp only [List.length_singleton] at h
    unfold ckF
    rw [if_neg (c := j = 0) (by omega), if_neg (c := j = 0) (by omega)]
attribute [irreducible] ck
end Go.Proofs.Ytfkpjnomfmjplaa
namespace Go.Proofs.Ytfkpjnomfmjplaa
open Go.Sym
theorem on_tri (x : Int) : TriQ Try.prog 54 #[.int .i64 x] [] (.bool (onR x)) := by
  have f_mixed := mixed; 
  by_cases h1 : x ≥ 3
  · by_cases h2 : x < 128
    · have e : onR x = true := onR_iff.2 ⟨h1, h2⟩
      rw [e]
      refine tri_intro (args := [_]) Try.func54 rfl Try.ntmps54 rfl (rs := _) rfl rfl fun E R => ?_
      simp only [fr, List.cons_append, List.nil_append]
      (refine sr_ ?_; (refine ac_ ?_); refine sn_ ?_; refine sr_ ?_; (refine mv_ ?_); (refine se_ (ex_geq_t ev_ .const om_) ?_); (refine mv_ ?_); (refine wt_ ?_); (refine mv_ ?_); (refine wt_ ?_); (refine se_ (ex_lss_t ev_ .const om_) ?_); (refine se_ (ex_pick_t ev_ ev_) ?_); (refine asg_ ?_); refine sn_ ?_; (apply sc_ret); (apply ret_ok; (focus ((apply Res.tmp; (exact ev_)); exact Res.nil)); (exact ⟨rfl, rfl⟩); (exact sel_); (exact appb_)))
    · have e : onR x = false := by rw [← Bool.not_eq_true, onR_iff]; omega
      rw [e]
      refine tri_intro (args := [_]) Try.func54 rfl Try.ntmps54 rfl (rs := _) rfl rfl fun E R => ?_
      simp only [fr, List.cons_append, List.nil_append]
      (refine sr_ ?_; (refine ac_ ?_); refine sn_ ?_; refine sr_ ?_; (refine mv_ ?_); (refine se_ (ex_geq_t ev_ .const om_) ?_); (refine mv_ ?_); (refine wt_ ?_); (refine mv_ ?_); (refine wt_ ?_); (refine se_ (ex_lss_f ev_ .const om_) ?_); (refine se_ (ex_pick_t ev_ ev_) ?_); (refine asg_ ?_); refine sn_ ?_; (apply sc_ret); (apply ret_ok; (focus ((apply Res.tmp; (exact ev_)); exact Res.nil)); (exact ⟨rfl, rfl⟩); (exact sel_); (exact appb_)))
  · have e : onR x = false := by rw [← Bool.not_eq_true, onR_iff]; omega
    rw [e]
    refine tri_intro (args := [_]) Try.func54 rfl Try.ntmps54 rfl (rs := _) rfl rfl fun E R => ?_
    simp only [fr, List.cons_append, List.nil_append]
    (refine sr_ ?_; (refine ac_ ?_); refine sn_ ?_; refine sr_ ?_; (refine mv_ ?_); (refine se_ (ex_geq_f ev_ .const om_) ?_); (refine mv_ ?_); (refine sk_ ?_); (refine sk_ ?_); (refine se_ (ex_pick_f ev_ .const) ?_); (refine asg_ ?_); refine sn_ ?_; (apply sc_ret); (apply ret_ok; (focus ((apply Res.tmp; (exact ev_)); exact Res.nil)); (exact ⟨rfl, rfl⟩); (exact sel_); (exact appb_)))
theorem steps_tri {a b : Int} (ha : onR a = true) (hb : onR b = true) : TriQ Try.prog 64 #[.int .i64 a, .int .i64 b] [] (.int .i64 (stepsR a b)) := by
  have f_mixed := mixed; 
  rw [onR_iff] at ha hb
  have e1 : IntKind.i64.wrap (b - a) = b - a := wrap_in (by unfold InI; omega)
  have e2 : IntKind.i64.wrap (b - a + 125) = b - a + 125 := wrap_in (by unfold InI; omega)
  have e3 : (b - a + 125).tmod 125 = stepsR a b := by unfold stepsR; rw [Int.tmod_eq_emod_of_nonneg (by omega)]
  refine tri_intro (args := [_, _]) Try.func64 rfl Try.ntmps64 rfl (rs := _) rfl rfl fun E R => ?_
  simp only [fr, List.cons_append, List.nil_append]
  (refine sr_ ?_; (refine ac_ ?_); refine sn_ ?_; refine sr_ ?_; (refine mv_ ?_); (refine mv_ ?_); (refine se_ (ex_sub ev_ ev_ wr_) ?_); (refine se_ (ex_add ev_ .const wr_) ?_); (apply so_ex; (apply ex_rem; (exact ev_); ((exact Ev.const)); (first | assumption | decide | omega); (first | assumption | exact rfl)); exact rfl); (refine asg_ ?_); refine sn_ ?_; (apply sc_ret); (apply ret_ok; (focus ((apply Res.tmp; (exact ev_)); exact Res.nil)); (exact ⟨rfl, rfl⟩); (exact sel_); (exact appb_)))
theorem next_tri (x : Int) : TriQ Try.prog 75 #[.int .i64 x] [] (.int .i64 (nextR x)) := by
  have f_mixed := mixed; have f_en54 := en54
  have f_on := on_tri
  by_cases h1 : onR x = true
  · rw [onR_iff] at h1
    by_cases h2 : x = 127
    · have e : nextR x = 3 := by unfold nextR; rw [if_pos (.inr h2)]
      rw [e]
      have hon : onR x = true := onR_iff.2 h1
      refine tri_intro (args := [_]) Try.func75 rfl Try.ntmps75 rfl (rs := _) rfl rfl fun E R => ?_
      have hc : TriQ Try.prog 54 #[.int .i64 x] [] (.bool true) := by have := on_tri x; rwa [hon] at this
      simp only [fr, List.cons_append, List.nil_append]
      (refine sr_ ?_; (refine ac_ ?_); refine sn_ ?_; (apply sc_seq); refine sr_ ?_; (refine mv_ ?_); (apply so_callq; (exact Ev.func); (focus ((apply EvL.cons; (exact ev_)); exact EvL.nil)); (focus (repeat (first | exact App.nil | apply App.cons))); assumption; exact hc; (exact sel_); exact rfl); (refine se_ (ex_not ev_) ?_); (refine mv_ ?_); (refine wt_ ?_); (refine mv_ ?_); (refine wt_ ?_); (refine se_ (ex_eql_t ev_ .const om_) ?_); (refine se_ (ex_pick_f ev_ ev_) ?_); refine sn_ ?_; (refine ct_ ?_); refine sr_ ?_; (refine ac_ ?_); refine sn_ ?_; (apply sc_ret); (apply rt_then); (apply ret_ok; (focus ((apply Res.tmp; (exact ev_)); exact Res.nil)); (exact ⟨rfl, rfl⟩); (exact sel_); (exact appb_)))
    · have hon : onR x = true := onR_iff.2 h1
      have e : nextR x = x + 1 := by unfold nextR; rw [if_neg (by rw [hon]; simp [h2])]
      rw [e]
      refine tri_intro (args := [_]) Try.func75 rfl Try.ntmps75 rfl (rs := _) rfl rfl fun E R => ?_
      have hc : TriQ Try.prog 54 #[.int .i64 x] [] (.bool true) := by have := on_tri x; rwa [hon] at this
      simp only [fr, List.cons_append, List.nil_append]
      (refine sr_ ?_; (refine ac_ ?_); refine sn_ ?_; (apply sc_seq); refine sr_ ?_; (refine mv_ ?_); (apply so_callq; (exact Ev.func); (focus ((apply EvL.cons; (exact ev_)); exact EvL.nil)); (focus (repeat (first | exact App.nil | apply App.cons))); assumption; exact hc; (exact sel_); exact rfl); (refine se_ (ex_not ev_) ?_); (refine mv_ ?_); (refine wt_ ?_); (refine mv_ ?_); (refine wt_ ?_); (refine se_ (ex_eql_f ev_ .const om_) ?_); (refine se_ (ex_pick_f ev_ ev_) ?_); refine sn_ ?_; (refine cf_ ?_); (apply sc_skip); (apply nm_then); refine sr_ ?_; (refine mv_ ?_); (refine se_ (ex_add ev_ .const wr_) ?_); (refine asg_ ?_); refine sn_ ?_; (apply sc_ret); (apply ret_ok; (focus ((apply Res.tmp; (exact ev_)); exact Res.nil)); (exact ⟨rfl, rfl⟩); (exact sel_); (exact appb_)))
  · rw [Bool.not_eq_true] at h1
    have e : nextR x = 3 := by unfold nextR; rw [if_pos (.inl h1)]
    rw [e]
    refine tri_intro (args := [_]) Try.func75 rfl Try.ntmps75 rfl (rs := _) rfl rfl fun E R => ?_
    have hc : TriQ Try.prog 54 #[.int .i64 x] [] (.bool false) := by have := on_tri x; rwa [h1] at this
    simp only [fr, List.cons_append, List.nil_append]
    (refine sr_ ?_; (refine ac_ ?_); refine sn_ ?_; (apply sc_seq); refine sr_ ?_; (refine mv_ ?_); (apply so_callq; (exact Ev.func); (focus ((apply EvL.cons; (exact ev_)); exact EvL.nil)); (focus (repeat (first | exact App.nil | apply App.cons))); assumption; exact hc; (exact sel_); exact rfl); (refine se_ (ex_not ev_) ?_); (refine mv_ ?_); (refine sk_ ?_); (refine sk_ ?_); (refine se_ (ex_pick_t ev_ .const) ?_); refine sn_ ?_; (refine ct_ ?_); refine sr_ ?_; (refine ac_ ?_); refine sn_ ?_; (apply sc_ret); (apply rt_then); (apply ret_ok; (focus ((apply Res.tmp; (exact ev_)); exact Res.nil)); (exact ⟨rfl, rfl⟩); (exact sel_); (exact appb_)))
end Go.Proofs.Ytfkpjnomfmjplaa
namespace Go.Proofs.Ytfkpjnomfmjplaa
open Go.Sym
section
variable {E : Env} {f : Nat → Value} {L : List Blk} {ty : TypeId} {pos : String} {after : Array Edge} {d : Nat} {x : Operand} {b i : Nat} {c : Clk} {fz : Nat × Nat}
theorem ex_ckl (hx : Ev f x (.pointer (some ⟨b, 0 + 0, none⟩))) (hT : tyOf Try.prog 3 = some (false, 1)) (hm : (b, .cells (ck c).toArray 105 fz) ∈ L) : Ex Try.prog E f L ⟨some d, .load 3 x, ty, pos, after, none⟩ (.int .i64 c.low) := ex_load1r hx hT hm (ck_low c rfl)
theorem ex_ckn (hx : Ev f x (.pointer (some ⟨b, 0 + 1, none⟩))) (hT : tyOf Try.prog 3 = some (false, 1)) (hm : (b, .cells (ck c).toArray 105 fz) ∈ L) : Ex Try.prog E f L ⟨some d, .load 3 x, ty, pos, after, none⟩ (.int .i64 c.next) := ex_load1r hx hT hm (ck_next c rfl)
theorem ex_cks (hx : Ev f x (.pointer (some ⟨b, 0 + 2 + i * 2 + 0, none⟩))) (hT : tyOf Try.prog 3 = some (false, 1)) (hm : (b, .cells (ck c).toArray 105 fz) ∈ L) (hi : i < 128) : Ex Try.prog E f L ⟨some d, .load 3 x, ty, pos, after, none⟩ (.int .i64 (c.st (i : Int))) := ex_load1r hx hT hm (ck_st c rfl hi (by omega))
theorem ex_cka (hx : Ev f x (.pointer (some ⟨b, 0 + 2 + i * 2 + 1, none⟩))) (hT : tyOf Try.prog 3 = some (false, 1)) (hm : (b, .cells (ck c).toArray 105 fz) ∈ L) (hi : i < 128) : Ex Try.prog E f L ⟨some d, .load 3 x, ty, pos, after, none⟩ (.int .i64 (c.ab (i : Int))) := ex_load1r hx hT hm (ck_ab c rfl hi (by omega))
end
theorem on_nat {x : Int} (h : onR x = true) : ∃ i : Nat, x = (i : Int) ∧ i < 128 ∧ 3 ≤ i := by
  rw [onR_iff] at h
  exact ⟨x.toNat, by omega, by omega, by omega⟩
abbrev cP (cb : Nat) : Value := .pointer (some ⟨cb, 0, none⟩)
abbrev cB (cb : Nat) (c : Clk) : Blk := (cb, .cells (ck c).toArray 105)
theorem knows_tri {c : Clk} (hc : ClkOk c) (cb : Nat) (x : Int) : TriQ Try.prog 62 #[cP cb, .int .i64 x] [cB cb c] (.bool (c.knows x)) := by
  have f_mixed := mixed; have f_en54 := en54; have f_en64 := en64; have f_fo105_0 := fo105_0; have f_fo105_1 := fo105_1; have f_ty3 := ty3; have f_un_53 : Und Try.prog 53 _ := ⟨Try.underlying53⟩
  have c1 := on_tri x
  unfold Clk.knows
  by_cases h1 : onR x = true
  · rw [h1] at c1 ⊢
    have c2 := steps_tri hc.low h1
    have c3 := steps_tri hc.low hc.next
    by_cases h2 : stepsR c.low x < stepsR c.low c.next
    · rw [decide_eq_true h2]
      refine tri_intro (args := [_, _]) Try.func62 rfl Try.ntmps62 rfl (rs := _) rfl rfl fun E R => ?_
      simp only [fr, List.cons_append, List.nil_append]
      (refine sr_ ?_; (refine ac_ ?_); refine sn_ ?_; (apply sc_seq); (apply sc_quiet (id := 1); assumption; kernel_rfl); (refine qe_ (ex_move ev_) ?_); (refine qe_ (ex_nep_t ev_ .const asm_) ?_); (refine qe_ (ex_move ev_) ?_); (refine qw_ ?_); (refine qe_ (ex_move ev_) ?_); (refine qw_ ?_); (apply sq_call; (exact Ev.func); (focus ((apply EvL.cons; (exact ev_)); exact EvL.nil)); (focus (repeat (first | exact App.nil | apply App.cons))); assumption; exact c1; (exact sel_); exact rfl); (refine qe_ (ex_pick_t ev_ ev_) ?_); (refine qe_ (ex_move ev_) ?_); (refine qw_ ?_); (refine qe_ (ex_move ev_) ?_); (refine qw_ ?_); (refine qe_ (ex_nilCheck ev_) ?_); (refine qw_ ?_); (refine qe_ (ex_fieldAddr ev_ asm_) ?_); (refine qw_ ?_); (refine qe_ (ex_ckl ev_ asm_ mem_) ?_); (refine qw_ ?_); (refine qe_ (ex_move ev_) ?_); (refine qw_ ?_); (apply sq_call; (exact Ev.func); (focus ((apply EvL.cons; (exact ev_)); (apply EvL.cons; (exact ev_)); exact EvL.nil)); (focus (repeat (first | exact App.nil | apply App.cons))); assumption; exact c2; (exact sel_); exact rfl); (refine qw_ ?_); (refine qe_ (ex_move ev_) ?_); (refine qw_ ?_); (refine qe_ (ex_nilCheck ev_) ?_); (refine qw_ ?_); (refine qe_ (ex_fieldAddr ev_ asm_) ?_); (refine qw_ ?_); (refine qe_ (ex_ckl ev_ asm_ mem_) ?_); (refine qw_ ?_); (refine qe_ (ex_move ev_) ?_); (refine qw_ ?_); (refine qe_ (ex_nilCheck ev_) ?_); (refine qw_ ?_); (refine qe_ (ex_fieldAddr ev_ asm_) ?_); (refine qw_ ?_); (refine qe_ (ex_ckn ev_ asm_ mem_) ?_); (refine qw_ ?_); (apply sq_call; (exact Ev.func); (focus ((apply EvL.cons; (exact ev_)); (apply EvL.cons; (exact ev_)); exact EvL.nil)); (focus (repeat (first | exact App.nil | apply App.cons))); assumption; exact c3; (exact sel_); exact rfl); (refine qw_ ?_); (refine qe_ (ex_lss_t ev_ ev_ om_) ?_); (refine qe_ (ex_pick_t ev_ ev_) ?_); (refine qe_ (ex_assign ev_) ?_); (apply sq_nil); (apply nm_then); (apply sc_ret); (apply ret_ok; (focus ((apply Res.tmp; (exact ev_)); exact Res.nil)); (exact ⟨rfl, rfl⟩); (exact sel_); (exact appb_)))
    · rw [decide_eq_false h2]
      refine tri_intro (args := [_, _]) Try.func62 rfl Try.ntmps62 rfl (rs := _) rfl rfl fun E R => ?_
      simp only [fr, List.cons_append, List.nil_append]
      (refine sr_ ?_; (refine ac_ ?_); refine sn_ ?_; (apply sc_seq); (apply sc_quiet (id := 1); assumption; kernel_rfl); (refine qe_ (ex_move ev_) ?_); (refine qe_ (ex_nep_t ev_ .const asm_) ?_); (refine qe_ (ex_move ev_) ?_); (refine qw_ ?_); (refine qe_ (ex_move ev_) ?_); (refine qw_ ?_); (apply sq_call; (exact Ev.func); (focus ((apply EvL.cons; (exact ev_)); exact EvL.nil)); (focus (repeat (first | exact App.nil | apply App.cons))); assumption; exact c1; (exact sel_); exact rfl); (refine qe_ (ex_pick_t ev_ ev_) ?_); (refine qe_ (ex_move ev_) ?_); (refine qw_ ?_); (refine qe_ (ex_move ev_) ?_); (refine qw_ ?_); (refine qe_ (ex_nilCheck ev_) ?_); (refine qw_ ?_); (refine qe_ (ex_fieldAddr ev_ asm_) ?_); (refine qw_ ?_); (refine qe_ (ex_ckl ev_ asm_ mem_) ?_); (refine qw_ ?_); (refine qe_ (ex_move ev_) ?_); (refine qw_ ?_); (apply sq_call; (exact Ev.func); (focus ((apply EvL.cons; (exact ev_)); (apply EvL.cons; (exact ev_)); exact EvL.nil)); (focus (repeat (first | exact App.nil | apply App.cons))); assumption; exact c2; (exact sel_); exact rfl); (refine qw_ ?_); (refine qe_ (ex_move ev_) ?_); (refine qw_ ?_); (refine qe_ (ex_nilCheck ev_) ?_); (refine qw_ ?_); (refine qe_ (ex_fieldAddr ev_ asm_) ?_); (refine qw_ ?_); (refine qe_ (ex_ckl ev_ asm_ mem_) ?_); (refine qw_ ?_); (refine qe_ (ex_move ev_) ?_); (refine qw_ ?_); (refine qe_ (ex_nilCheck ev_) ?_); (refine qw_ ?_); (refine qe_ (ex_fieldAddr ev_ asm_) ?_); (refine qw_ ?_); (refine qe_ (ex_ckn ev_ asm_ mem_) ?_); (refine qw_ ?_); (apply sq_call; (exact Ev.func); (focus ((apply EvL.cons; (exact ev_)); (apply EvL.cons; (exact ev_)); exact EvL.nil)); (focus (repeat (first | exact App.nil | apply App.cons))); assumption; exact c3; (exact sel_); exact rfl); (refine qw_ ?_); (refine qe_ (ex_lss_f ev_ ev_ om_) ?_); (refine qe_ (ex_pick_t ev_ ev_) ?_); (refine qe_ (ex_assign ev_) ?_); (apply sq_nil); (apply nm_then); (apply sc_ret); (apply ret_ok; (focus ((apply Res.tmp; (exact ev_)); exact Res.nil)); (exact ⟨rfl, rfl⟩); (exact sel_); (exact appb_)))
  · rw [Bool.not_eq_true] at h1
    rw [h1] at c1 ⊢
    refine tri_intro (args := [_, _]) Try.func62 rfl Try.ntmps62 rfl (rs := _) rfl rfl fun E R => ?_
    simp only [fr, List.cons_append, List.nil_append]
    (refine sr_ ?_; (refine ac_ ?_); refine sn_ ?_; (apply sc_seq); (apply sc_quiet (id := 1); assumption; kernel_rfl); (refine qe_ (ex_move ev_) ?_); (refine qe_ (ex_nep_t ev_ .const asm_) ?_); (refine qe_ (ex_move ev_) ?_); (refine qw_ ?_); (refine qe_ (ex_move ev_) ?_); (refine qw_ ?_); (apply sq_call; (exact Ev.func); (focus ((apply EvL.cons; (exact ev_)); exact EvL.nil)); (focus (repeat (first | exact App.nil | apply App.cons))); assumption; exact c1; (exact sel_); exact rfl); (refine qe_ (ex_pick_t ev_ ev_) ?_); (refine qe_ (ex_move ev_) ?_); (refine qs_ ?_); (refine qs_ ?_); (refine qs_ ?_); (refine qs_ ?_); (refine qs_ ?_); (refine qs_ ?_); (refine qs_ ?_); (refine qs_ ?_); (refine qs_ ?_); (refine qs_ ?_); (refine qs_ ?_); (refine qs_ ?_); (refine qs_ ?_); (refine qs_ ?_); (refine qs_ ?_); (refine qs_ ?_); (refine qe_ (ex_pick_f ev_ .const) ?_); (refine qe_ (ex_assign ev_) ?_); (apply sq_nil); (apply nm_then); (apply sc_ret); (apply ret_ok; (focus ((apply Res.tmp; (exact ev_)); exact Res.nil)); (exact ⟨rfl, rfl⟩); (exact sel_); (exact appb_)))
theorem live_tri (c : Clk) (cb : Nat) {x : Int} (h : onR x = true) : TriQ Try.prog 70 #[cP cb, .int .i64 x] [cB cb c] (.bool (c.live x)) := by
  have f_mixed := mixed; have f_fo102_0 := fo102_0; have f_fo105_2 := fo105_2; have f_ty3 := ty3; have f_ty102 := ty102; have f_ty103 := ty103; have f_un_103 : Und Try.prog 103 _ := ⟨Try.underlying103⟩; have f_zero102 := zero102; have f_zv102 := zv102
  obtain ⟨i, rfl, hi, _⟩ := on_nat h
  unfold Clk.live
  by_cases h1 : c.st (i : Int) = 1
  · rw [decide_eq_true h1]
    refine tri_intro (args := [_, _]) Try.func70 rfl Try.ntmps70 rfl (rs := _) rfl rfl fun E R => ?_
    simp only [fr, List.cons_append, List.nil_append]
    (refine sr_ ?_; (refine ac_ ?_); refine sn_ ?_; refine sr_ ?_; (refine mv_ ?_); (refine mv_ ?_); (refine se_ (ex_nilCheck ev_) ?_); (refine se_ (ex_fieldAddr ev_ asm_) ?_); (refine se_ (ex_indexArr ev_ ev_ asm_ asm_ lit_ lt_) ?_); (refine se_ (ex_fieldAddr ev_ asm_) ?_); (refine se_ (ex_cks ev_ asm_ mem_ lt_) ?_); (refine asg_ ?_); refine sn_ ?_; refine sr_ ?_; (refine mv_ ?_); (refine se_ (ex_eql_t ev_ .const om_) ?_); (refine mv_ ?_); (refine sk_ ?_); (refine sk_ ?_); (refine se_ (ex_pick_t ev_ .const) ?_); (refine asg_ ?_); refine sn_ ?_; (apply sc_ret); (apply ret_ok; (focus ((apply Res.tmp; (exact ev_)); exact Res.nil)); (exact ⟨rfl, rfl⟩); (exact sel_); (exact appb_)))
  · rw [decide_eq_false h1]
    by_cases h4 : c.st (i : Int) = 4
    · rw [decide_eq_true h4]
      refine tri_intro (args := [_, _]) Try.func70 rfl Try.ntmps70 rfl (rs := _) rfl rfl fun E R => ?_
      simp only [fr, List.cons_append, List.nil_append]
      (refine sr_ ?_; (refine ac_ ?_); refine sn_ ?_; refine sr_ ?_; (refine mv_ ?_); (refine mv_ ?_); (refine se_ (ex_nilCheck ev_) ?_); (refine se_ (ex_fieldAddr ev_ asm_) ?_); (refine se_ (ex_indexArr ev_ ev_ asm_ asm_ lit_ lt_) ?_); (refine se_ (ex_fieldAddr ev_ asm_) ?_); (refine se_ (ex_cks ev_ asm_ mem_ lt_) ?_); (refine asg_ ?_); refine sn_ ?_; refine sr_ ?_; (refine mv_ ?_); (refine se_ (ex_eql_f ev_ .const om_) ?_); (refine mv_ ?_); (refine wt_ ?_); (refine mv_ ?_); (refine wt_ ?_); (refine se_ (ex_eql_t ev_ .const om_) ?_); (refine se_ (ex_pick_f ev_ ev_) ?_); (refine asg_ ?_); refine sn_ ?_; (apply sc_ret); (apply ret_ok; (focus ((apply Res.tmp; (exact ev_)); exact Res.nil)); (exact ⟨rfl, rfl⟩); (exact sel_); (exact appb_)))
    · rw [decide_eq_false h4]
      refine tri_intro (args := [_, _]) Try.func70 rfl Try.ntmps70 rfl (rs := _) rfl rfl fun E R => ?_
      simp only [fr, List.cons_append, List.nil_append]
      (refine sr_ ?_; (refine ac_ ?_); refine sn_ ?_; refine sr_ ?_; (refine mv_ ?_); (refine mv_ ?_); (refine se_ (ex_nilCheck ev_) ?_); (refine se_ (ex_fieldAddr ev_ asm_) ?_); (refine se_ (ex_indexArr ev_ ev_ asm_ asm_ lit_ lt_) ?_); (refine se_ (ex_fieldAddr ev_ asm_) ?_); (refine se_ (ex_cks ev_ asm_ mem_ lt_) ?_); (refine asg_ ?_); refine sn_ ?_; refine sr_ ?_; (refine mv_ ?_); (refine se_ (ex_eql_f ev_ .const om_) ?_); (refine mv_ ?_); (refine wt_ ?_); (refine mv_ ?_); (refine wt_ ?_); (refine se_ (ex_eql_f ev_ .const om_) ?_); (refine se_ (ex_pick_f ev_ ev_) ?_); (refine asg_ ?_); refine sn_ ?_; (apply sc_ret); (apply ret_ok; (focus ((apply Res.tmp; (exact ev_)); exact Res.nil)); (exact ⟨rfl, rfl⟩); (exact sel_); (exact appb_)))
theorem above_tri {c : Clk} (hc : ClkOk c) (cb : Nat) {x : Int} (h : onR x = true) : TriQ Try.prog 66 #[cP cb, .int .i64 x] [cB cb c] (.int .i64 (c.above x)) := by
  have f_mixed := mixed; have f_en62 := en62; have f_fo102_1 := fo102_1; have f_fo105_2 := fo105_2; have f_ty3 := ty3; have f_ty102 := ty102; have f_ty103 := ty103; have f_un_103 : Und Try.prog 103 _ := ⟨Try.underlying103⟩; have f_zero102 := zero102; have f_zv102 := zv102
  obtain ⟨i, rfl, hi, _⟩ := on_nat h
  have c1 := knows_tri hc cb (c.ab i)
  unfold Clk.above
  by_cases h1 : c.knows (c.ab (i : Int)) = true
  · rw [if_pos h1]
    rw [h1] at c1
    refine tri_intro (args := [_, _]) Try.func66 rfl Try.ntmps66 rfl (rs := _) rfl rfl fun E R => ?_
    simp only [fr, List.cons_append, List.nil_append]
    (refine sr_ ?_; (refine ac_ ?_); refine sn_ ?_; (apply sc_seq); refine sr_ ?_; (refine mv_ ?_); (refine mv_ ?_); (refine se_ (ex_nilCheck ev_) ?_); (refine se_ (ex_fieldAddr ev_ asm_) ?_); (refine se_ (ex_indexArr ev_ ev_ asm_ asm_ lit_ lt_) ?_); (refine se_ (ex_fieldAddr ev_ asm_) ?_); (refine se_ (ex_cka ev_ asm_ mem_ lt_) ?_); (refine asg_ ?_); refine sn_ ?_; refine sr_ ?_; (refine mv_ ?_); (refine mv_ ?_); (apply so_callq; (exact Ev.func); (focus ((apply EvL.cons; (exact ev_)); (apply EvL.cons; (exact ev_)); exact EvL.nil)); (focus (repeat (first | exact App.nil | apply App.cons))); assumption; exact c1; (exact sel_); exact rfl); refine sn_ ?_; (refine ct_ ?_); refine sr_ ?_; (refine mv_ ?_); (refine asg_ ?_); refine sn_ ?_; (apply sc_ret); (apply rt_then); (apply ret_ok; (focus ((apply Res.tmp; (exact ev_)); exact Res.nil)); (exact ⟨rfl, rfl⟩); (exact sel_); (exact appb_)))
  · rw [if_neg h1]
    rw [Bool.not_eq_true] at h1
    rw [h1] at c1
    refine tri_intro (args := [_, _]) Try.func66 rfl Try.ntmps66 rfl (rs := _) rfl rfl fun E R => ?_
    simp only [fr, List.cons_append, List.nil_append]
    (refine sr_ ?_; (refine ac_ ?_); refine sn_ ?_; (apply sc_seq); refine sr_ ?_; (refine mv_ ?_); (refine mv_ ?_); (refine se_ (ex_nilCheck ev_) ?_); (refine se_ (ex_fieldAddr ev_ asm_) ?_); (refine se_ (ex_indexArr ev_ ev_ asm_ asm_ lit_ lt_) ?_); (refine se_ (ex_fieldAddr ev_ asm_) ?_); (refine se_ (ex_cka ev_ asm_ mem_ lt_) ?_); (refine asg_ ?_); refine sn_ ?_; refine sr_ ?_; (refine mv_ ?_); (refine mv_ ?_); (apply so_callq; (exact Ev.func); (focus ((apply EvL.cons; (exact ev_)); (apply EvL.cons; (exact ev_)); exact EvL.nil)); (focus (repeat (first | exact App.nil | apply App.cons))); assumption; exact c1; (exact sel_); exact rfl); refine sn_ ?_; (refine cf_ ?_); (apply sc_skip); (apply nm_then); refine sr_ ?_; (refine ac_ ?_); refine sn_ ?_; (apply sc_ret); (apply ret_ok; (focus ((apply Res.tmp; (exact ev_)); exact Res.nil)); (exact ⟨rfl, rfl⟩); (exact sel_); (exact appb_)))
theorem state_tri {c : Clk} (hc : ClkOk c) (cb : Nat) (x : Int) : TriQ Try.prog 31 #[cP cb, .int .i64 x] [cB cb c] (.int .i64 (c.state x)) := by
  have f_mixed := mixed; have f_en62 := en62; have f_fo102_0 := fo102_0; have f_fo105_2 := fo105_2; have f_ty3 := ty3; have f_ty102 := ty102; have f_ty103 := ty103; have f_un_53 : Und Try.prog 53 _ := ⟨Try.underlying53⟩; have f_un_103 : Und Try.prog 103 _ := ⟨Try.underlying103⟩; have f_zero102 := zero102; have f_zv102 := zv102
  have c1 := knows_tri hc cb x
  unfold Clk.state
  by_cases h2 : x = 2
  · rw [if_pos h2]
    refine tri_intro (args := [_, _]) Try.func31 rfl Try.ntmps31 rfl (rs := _) rfl rfl fun E R => ?_
    simp only [fr, List.cons_append, List.nil_append]
    (refine sr_ ?_; (refine ac_ ?_); refine sn_ ?_; (apply sc_seq); (apply sc_block); refine sr_ ?_; (refine mv_ ?_); (refine se_ (ex_eqp_f ev_ .const asm_) ?_); (refine asg_ ?_); refine sn_ ?_; (refine cf_ ?_); refine sr_ ?_; (refine mv_ ?_); (refine se_ (ex_eql_t ev_ .const om_) ?_); (refine asg_ ?_); refine sn_ ?_; (refine ct_ ?_); refine sr_ ?_; (refine ac_ ?_); refine sn_ ?_; (apply sc_ret); (apply rt_block); (apply rt_then); (apply ret_ok; (focus ((apply Res.tmp; (exact ev_)); exact Res.nil)); (exact ⟨rfl, rfl⟩); (exact sel_); (exact appb_)))
  · rw [if_neg h2]
    by_cases h1 : c.knows x = true
    · rw [if_pos h1]
      rw [h1] at c1
      obtain ⟨i, rfl, hi, _⟩ := on_nat (x := x) (by unfold Clk.knows at h1; exact (Bool.and_eq_true _ _ ▸ h1).1)
      refine tri_intro (args := [_, _]) Try.func31 rfl Try.ntmps31 rfl (rs := _) rfl rfl fun E R => ?_
      simp only [fr, List.cons_append, List.nil_append]
      (refine sr_ ?_; (refine ac_ ?_); refine sn_ ?_; (apply sc_seq); (apply sc_block); refine sr_ ?_; (refine mv_ ?_); (refine se_ (ex_eqp_f ev_ .const asm_) ?_); (refine asg_ ?_); refine sn_ ?_; (refine cf_ ?_); refine sr_ ?_; (refine mv_ ?_); (refine se_ (ex_eql_f ev_ .const om_) ?_); (refine asg_ ?_); refine sn_ ?_; (refine cf_ ?_); refine sr_ ?_; (refine mv_ ?_); (refine mv_ ?_); (apply so_callq; (exact Ev.func); (focus ((apply EvL.cons; (exact ev_)); (apply EvL.cons; (exact ev_)); exact EvL.nil)); (focus (repeat (first | exact App.nil | apply App.cons))); assumption; exact c1; (exact sel_); exact rfl); (refine se_ (ex_not ev_) ?_); (refine asg_ ?_); refine sn_ ?_; (refine cf_ ?_); (apply sc_skip); (apply nm_block); (apply nm_then); refine sr_ ?_; (refine mv_ ?_); (refine mv_ ?_); (refine se_ (ex_nilCheck ev_) ?_); (refine se_ (ex_fieldAddr ev_ asm_) ?_); (refine se_ (ex_indexArr ev_ ev_ asm_ asm_ lit_ lt_) ?_); (refine se_ (ex_fieldAddr ev_ asm_) ?_); (refine se_ (ex_cks ev_ asm_ mem_ lt_) ?_); (refine asg_ ?_); refine sn_ ?_; (apply sc_ret); (apply ret_ok; (focus ((apply Res.tmp; (exact ev_)); exact Res.nil)); (exact ⟨rfl, rfl⟩); (exact sel_); (exact appb_)))
    · rw [if_neg h1]
      rw [Bool.not_eq_true] at h1
      rw [h1] at c1
      refine tri_intro (args := [_, _]) Try.func31 rfl Try.ntmps31 rfl (rs := _) rfl rfl fun E R => ?_
      simp only [fr, List.cons_append, List.nil_append]
      (refine sr_ ?_; (refine ac_ ?_); refine sn_ ?_; (apply sc_seq); (apply sc_block); refine sr_ ?_; (refine mv_ ?_); (refine se_ (ex_eqp_f ev_ .const asm_) ?_); (refine asg_ ?_); refine sn_ ?_; (refine cf_ ?_); refine sr_ ?_; (refine mv_ ?_); (refine se_ (ex_eql_f ev_ .const om_) ?_); (refine asg_ ?_); refine sn_ ?_; (refine cf_ ?_); refine sr_ ?_; (refine mv_ ?_); (refine mv_ ?_); (apply so_callq; (exact Ev.func); (focus ((apply EvL.cons; (exact ev_)); (apply EvL.cons; (exact ev_)); exact EvL.nil)); (focus (repeat (first | exact App.nil | apply App.cons))); assumption; exact c1; (exact sel_); exact rfl); (refine se_ (ex_not ev_) ?_); (refine asg_ ?_); refine sn_ ?_; (refine ct_ ?_); refine sr_ ?_; (refine ac_ ?_); refine sn_ ?_; (apply sc_ret); (apply rt_block); (apply rt_then); (apply ret_ok; (focus ((apply Res.tmp; (exact ev_)); exact Res.nil)); (exact ⟨rfl, rfl⟩); (exact sel_); (exact appb_)))
theorem now_tri (c : Clk) (cb : Nat) : TriQ Try.prog 24 #[cP cb] [cB cb c] (.int .i64 c.next) := by
  have f_mixed := mixed; have f_fo105_1 := fo105_1; have f_ty3 := ty3; have f_un_53 : Und Try.prog 53 _ := ⟨Try.underlying53⟩
  refine tri_intro (args := [_]) Try.func24 rfl Try.ntmps24 rfl (rs := _) rfl rfl fun E R => ?_
  simp only [fr, List.cons_append, List.nil_append]
  (refine sr_ ?_; (refine ac_ ?_); refine sn_ ?_; (apply sc_seq); refine sr_ ?_; (refine mv_ ?_); (refine se_ (ex_eqp_f ev_ .const asm_) ?_); refine sn_ ?_; (refine cf_ ?_); (apply sc_skip); (apply nm_then); refine sr_ ?_; (refine mv_ ?_); (refine se_ (ex_nilCheck ev_) ?_); (refine se_ (ex_fieldAddr ev_ asm_) ?_); (refine se_ (ex_ckn ev_ asm_ mem_) ?_); (refine asg_ ?_); refine sn_ ?_; (apply sc_ret); (apply ret_ok; (focus ((apply Res.tmp; (exact ev_)); exact Res.nil)); (exact ⟨rfl, rfl⟩); (exact sel_); (exact appb_)))
end Go.Proofs.Ytfkpjnomfmjplaa
namespace Go.Proofs.Ytfkpjnomfmjplaa
open Go.Sym
theorem all_tri (cb : Nat) : Tri Try.prog 65 #[cP cb] [] fun v L => ∃ bc, v = .func (.func 80) #[] [cP bc].toArray ∧ L = [(bc, .cells [cP cb].toArray 53)] := by
  have f_mixed := mixed; have f_en80 := en80; have f_ty53 := ty53
  refine tri_intro (args := [_]) Try.func65 rfl Try.ntmps65 rfl (rs := _) rfl rfl fun E R => ?_
  simp only [fr, List.cons_append, List.nil_append]
  (refine sr_ ?_; (apply so_box; (exact ev_); exact rfl; exact rfl; intro _); (refine ac_ ?_); refine sn_ ?_; refine sr_ ?_; (apply so_ex; (apply ex_makeFunc; ((focus ((apply EvL.cons; (exact ev_)); exact EvL.nil)))); exact rfl); (refine asg_ ?_); refine sn_ ?_; (apply sc_ret); (apply ret_ok; (focus ((apply Res.tmp; (exact ev_)); exact Res.nil)); (exact ⟨_, rfl, rfl⟩); (exact sel_); (exact appb_)))
theorem all_step {c : Clk} (hc : ClkOk c) {i : Nat} {x : Int} (hx : onR x = true) (h : c.all.drop i = walkR x (stepsR x c.next).toNat) (hne : ¬ x = c.next) :
    c.all[i]? = some x ∧ i < c.all.length ∧ onR (nextR x) = true ∧ c.all.drop (i + 1) = walkR (nextR x) (stepsR (nextR x) c.next).toNat := by
  have h1 := stepsR_next hx hc.next hne
  have h2 := stepsR_lt (nextR x) c.next
  rw [h1, show (stepsR (nextR x) c.next + 1).toNat = (stepsR (nextR x) c.next).toNat + 1 by omega] at h
  unfold walkR at h
  have h3 : i < c.all.length := by
    rcases Nat.lt_or_ge i c.all.length with h' | h'
    · exact h'
    · rw [List.drop_eq_nil_of_le h'] at h; cases h
  rw [List.drop_eq_getElem_cons h3] at h
  injection h with h4 h5
  exact ⟨by rw [List.getElem?_eq_getElem h3, h4], h3, onR_next x, h5⟩
theorem all_end {c : Clk} {i : Nat} (h : c.all.drop i = walkR c.next (stepsR c.next c.next).toNat) (hi : i ≤ c.all.length) : i = c.all.length := by
  rw [stepsR_self] at h
  have h1 : c.all.drop i = [] := h
  have h2 := List.drop_eq_nil_iff.1 h1
  omega
/-- the iterator's own box, and the clock -/
def needC (cb bc : Nat) (c : Clk) (L : List Blk) : Prop := (bc, .cells [cP cb].toArray 53) ∈ L ∧ cB cb c ∈ L
set_option maxHeartbeats 1000000 in
theorem all_gives {c : Clk} (hc : ClkOk c) (cb bc : Nat) : Gives Try.prog 80 [cP bc] (needC cb bc c) (c.all.map (Value.int .i64)) := by
  have f_mixed := mixed; have f_en75 := en75; have f_fo105_0 := fo105_0; have f_fo105_1 := fo105_1; have f_ty3 := ty3; have f_ty53 := ty53
  refine gives_intro Try.func80 rfl Try.ntmps80 rfl rfl fun E l J Jx hJ hY L h0 => ?_
  obtain ⟨m1, m2⟩ := hJ 0 L h0
  simp only [fr, List.cons_append, List.nil_append]
  have cn := next_tri
  (refine sr_ ?_; (refine se_ (ex_load1 ev_ asm_ mem_ nth_) ?_); (refine se_ (ex_nilCheck ev_) ?_); (refine se_ (ex_fieldAddr ev_ asm_) ?_); (refine se_ (ex_ckl ev_ asm_ mem_) ?_); (refine asg_ ?_); refine sn_ ?_; (apply sc_block))
  refine sc_loop (fun k f L => ∃ (i : Nat) (x : Int), k = c.all.length - i ∧ i ≤ c.all.length ∧ onR x = true ∧ c.all.drop i = walkR x (stepsR x c.next).toNat ∧ J i L ∧ At f 0 (.func (.yield l) #[] #[]) ∧ At f 1 (cP bc) ∧ At f 3 (.int .i64 x))
    _ ⟨0, c.low, rfl, Nat.zero_le _, hc.low, rfl, h0, at_, at_, at_⟩ ?_
  clear m1 m2 h0 L
  rintro k f L ⟨i, x, hk, hi, hx, hd, hj, a0, a1, a3⟩
  obtain ⟨m1, m2⟩ := hJ i L hj
  by_cases hne : x = c.next
  · have hi2 := all_end (c := c) (i := i) (by rw [← hne] at hd ⊢; exact hd) hi
    subst hi2
    ((apply sc_seq); refine sr_ ?_; (refine mv_ ?_); (refine se_ (ex_load1 ev_ asm_ mem_ nth_) ?_); (refine se_ (ex_nilCheck ev_) ?_); (refine se_ (ex_fieldAddr ev_ asm_) ?_); (refine se_ (ex_ckn ev_ asm_ mem_) ?_); (refine se_ (ex_neq_f ev_ ev_ om_) ?_); refine sn_ ?_; (refine cf_ ?_); (apply sc_exit); (apply et_then); (apply et_then); (apply et_hit))
    refine ret_ok' (L' := L) (G := []) .nil (.inl (by rw [List.length_map]; exact hj)) (M := []) Sel.self .nil
  · obtain ⟨s1, s2, s3, s4⟩ := all_step hc hx hd hne
    have c1 := cn x
    ((apply sc_seq); (apply sc_seq); ((fail_if_success (apply sc_region (id := 3))); apply sc_region); (refine mv_ ?_); (refine se_ (ex_load1 ev_ asm_ mem_ nth_) ?_); (refine se_ (ex_nilCheck ev_) ?_); (refine se_ (ex_fieldAddr ev_ asm_) ?_); (refine se_ (ex_ckn ev_ asm_ mem_) ?_); (refine se_ (ex_neq_t ev_ ev_ om_) ?_); refine sn_ ?_; (refine ct_ ?_); (apply sc_skip); (apply nm_then); (apply sc_seq); (apply sc_block); (apply sc_seq))
    apply sc_region_y
    apply sy_ex; (apply ex_move; (exact ev_)); exact rfl
    apply sy_ex; (apply ex_move; (exact ev_)); exact rfl
    apply sy_yield (l := l); (exact ev_); (exact ev_); exact rfl
    intro w hw
    refine (hY i _ w _ (by rw [List.getElem?_map, s1]; rfl) hj hw).mono ?_
    clear m1 m2
    rintro e w' (⟨he, L', hj', hp⟩ | ⟨he, L', hx', hp⟩)
    · refine ⟨true, L', he, hp, ?_⟩
      apply sy_so; rfl; (repeat (first | exact noOut_ret | exact noOut_retM | exact noOut_rnd | apply noOut_then | apply noOut_block))
      obtain ⟨m1, m2⟩ := hJ (i + 1) L' hj'
      ((refine se_ (ex_not ev_) ?_); refine sn_ ?_; (refine cf_ ?_); (apply sc_skip); (apply nm_block); (apply nm_then); (apply sc_region); (refine mv_ ?_); (apply so_callq; (exact Ev.func); (focus ((apply EvL.cons; (exact ev_)); exact EvL.nil)); (focus (repeat (first | exact App.nil | apply App.cons))); assumption; exact c1; (exact sel_); exact rfl); (refine asg_ ?_); (apply so_nil); (apply nm_then))
      exact ⟨c.all.length - (i + 1), by omega, i + 1, nextR x, rfl, s2, s3, s4, hj', at_, at_, at_⟩
    · refine ⟨false, L', he, hp, ?_⟩
      apply sy_so; rfl; (repeat (first | exact noOut_ret | exact noOut_retM | exact noOut_rnd | apply noOut_then | apply noOut_block))
      ((refine se_ (ex_not ev_) ?_); refine sn_ ?_; (refine ct_ ?_); (apply sc_ret); (apply rt_block); (apply rt_then); (apply rt_then); (apply rt_block))
      exact ret_ok (L' := L') (G := []) .nil (.inr hx') (M := []) Sel.self .nil
end Go.Proofs.Ytfkpjnomfmjplaa
namespace Go.Sym
open Go
theorem rnd_ok {I : Nat → List Blk → Prop} {Ix : Exit → List Blk → Prop} {i : Nat} {R X L' G Li : List Blk} {D : List Deferred} {f : Nat → Value} (h : I (i + 1) Li) (hx : X = Li ++ R) (hs : Sel L' X G) : rndPost I Ix i R D .normal f L' := ⟨Li, G, by rw [← hx]; exact hs.perm, h⟩
theorem rnd_exit {I : Nat → List Blk → Prop} {Ix : Exit → List Blk → Prop} {i k : Nat} {R X L' G Li : List Blk} {D : List Deferred} {f : Nat → Value} (h : Ix (.exit k) Li) (hx : X = Li ++ R) (hs : Sel L' X G) : rndPost I Ix i R D (.exit k) f L' := ⟨Li, G, by rw [← hx]; exact hs.perm, h⟩
theorem sm_range1 {P : Program} {E : Env} {n : Nat} {Q : SPostD} {f : Nat → Value} {L : List Blk} {g : Operand} {p : Tmp} {id d : Nat} {ty : TypeId} {pos : String} {after : Array Edge} {body : Code} {gi : FuncId} {cap : List Value} {need : List Blk → Prop} {xs : List Value} (hg : Ev f g (.func (.func gi) #[] cap.toArray)) (he : Enters P gi) (hG : Gives P gi cap need xs) (hpn : Nat.blt p n = true) (hdn : Nat.blt d n = true)
    (I : Nat → List Blk → Prop) (Ix : Exit → List Blk → Prop) (hneed : ∀ i Li R, I i Li → need (Li ++ R)) (h0 : I 0 L)
    (hbody : ∀ lp i x Li R, xs[i]? = some x → I i Li → SM P E n (some lp) body (rndPost I Ix i R) [] (upd (upd f p x) d x) (Li ++ R))
    (hdone : ∀ k Ld, I xs.length Ld → Q [mark k] .normal f (markB k :: Ld))
    (hret : ∀ k Ld, Ix .ret Ld → Q [mark k] .ret f (markB k :: Ld)) (hexit : ∀ k id Ld, Ix (.exit id) Ld → Q [mark k] (.exit id) f (markB k :: Ld)) :
    SM P E n none (.rangeFunc g #[p] (.region id #[⟨some d, .assign (.tmp p), ty, pos, after, none⟩] false) body) Q [] f L := by
  refine sm_rangeFunc hg he hG hpn I Ix (fun x => upd (upd f p x) d x) hneed h0 (fun lp x L' => ?_) hbody hdone hret hexit
  refine sm_region (ops := [_]) rfl (fun _ _ h => by cases h.1) ?_
  exact so_ex (ex_assign .same) hdn (so_nil ⟨rfl, rfl, rfl, rfl⟩)
end Go.Sym
namespace Go.Proofs.Ytfkpjnomfmjplaa
open Go.Sym
end Go.Proofs.Ytfkpjnomfmjplaa
namespace Go.Sym
open Go
theorem Sel.perm0 {L M : List Blk} (h : Sel L M []) : L.Perm M := by simpa using h.perm
theorem so_insert {P : Program} {E : Env} {n : Nat} {Q : SPost} {f : Nat → Value} {L : List Blk} {ops rest : List Oper} {t ty : TypeId} {x y z : Operand} {pos : String} {after : Array Edge} (h : SO P E n ops Q (⟨none, .mapUpdate t x y z, ty, pos, after, none⟩ :: rest) f L) : SO P E n ops Q (⟨none, .insert t x y z, ty, pos, after, none⟩ :: rest) f L := .mk fun a w hr hh => h.out a w hr hh
theorem lookV_putV {K : Type} [DecidableEq K] (l : List (K × Value)) (k k' : K) (v : Value) : lookV (putV l k v) k' = if k = k' then some v else lookV l k' := by
  unfold putV
  by_cases h : hasK l k = true
  · rw [if_pos h]
    induction l with
    | nil => simp [hasK] at h
    | cons p l ih =>
      rw [List.map_cons, lookV_cons, lookV_cons]
      by_cases hp : p.1 = k
      · rw [if_pos hp]
        by_cases hk : p.1 = k'
        · rw [if_pos hk, if_pos (hp.symm.trans hk)]
        · rw [if_neg hk, if_neg (fun e => hk (hp.trans e)), if_neg hk]
          by_cases hl : hasK l k = true
          · rw [ih hl, if_neg (fun e => hk (hp.trans e))]
          · have : l.map (fun p => if p.1 = k then (p.1, v) else p) = l := by
              conv => rhs; rw [← List.map_id l]
              apply List.map_congr_left
              intro q hq
              rw [if_neg]; · rfl
              intro e
              exact hl (List.any_eq_true.2 ⟨q, hq, by simpa using e⟩)
            rw [this]
      · rw [if_neg hp]
        have hl : hasK l k = true := by simpa [hasK, hp] using h
        rw [ih hl]
        by_cases hk : k = k'
        · rw [if_pos hk, if_neg (fun e => hp (e.trans hk.symm))]; simp [hk]
        · simp [hk]
  · rw [if_neg h, lookV_append]
    by_cases hk : k = k'
    · subst hk
      have : lookV l k = none := by
        have := lookV_isSome l k
        rw [Bool.not_eq_true] at h
        rw [h] at this
        simpa using this
      rw [this]; simp
    · simp [hk]
end Go.Sym
namespace Go.Proofs.Ytfkpjnomfmjplaa
open Go.Sym
theorem KL3 : KeyLaw (K := Int) Try.prog 3 (.int .i64) := KeyLaw.of_int Try.underlying3 fun b k w => by kernel_rfl
/-- the set l as a map -/
def SetOf (ml : List (Int × Value)) (l : List Int) : Prop := ∀ k, (lookV ml k).getD (.bool false) = .bool (decide (k ∈ l))
theorem SetOf.one (x : Int) : SetOf (putV [] x (.bool true)) [x] := fun k => by
  rw [lookV_putV]
  by_cases h : x = k
  · subst h; simp
  · have : ¬ k = x := fun e => h e.symm
    simp [h, this, lookV_nil]
theorem SetOf.add {ml : List (Int × Value)} {l : List Int} (h : SetOf ml l) (x : Int) : SetOf (putV ml x (.bool true)) (l ++ [x]) := fun k => by
  rw [lookV_putV]
  by_cases hk : x = k
  · subst hk; simp
  · have : ¬ k = x := fun e => hk e.symm
    rw [if_neg hk, h k]; simp [this]
set_option maxHeartbeats 4000000 in
theorem below_tri {c : Clk} (hc : ClkOk c) (cb : Nat) (x : Int) : Tri Try.prog 71 #[cP cb, .int .i64 x] [cB cb c] fun v L => ∃ B, SlI (c.below x) v B ∧ L = B ++ [cB cb c] := by
  have f_mixed := mixed; have f_by3 := by3; have f_en62 := en62; have f_en65 := en65; have f_en66 := en66; have f_ty3 := ty3; have f_ty36 := ty36; have f_ty119 := ty119; have f_ty4 := ty4; have f_ty53 := ty53; have f_un_36 : Und Try.prog 36 _ := ⟨Try.underlying36⟩; have f_un_119 : Und Try.prog 119 _ := ⟨Try.underlying119⟩; have f_zero3 := zero3; have f_zero36 := zero36; have f_zero119 := zero119; have f_zero4 := zero4; have f_zv3 := zv3; have f_zv4 := zv4
  have f_kl := KL3
  have f_me : MapOf (K := Int) (Value.int .i64) [] #[] 0 := .empty
  refine tri_marks (args := [_, _]) Try.func71 rfl Try.ntmps71 rfl (rs := _) rfl rfl fun E R => ?_
  simp only [fr, List.cons_append, List.nil_append]
  have c1 := all_tri cb
  have ck := knows_tri hc cb x
  by_cases hk : c.knows x = true
  · rw [hk] at ck
    have e0 : c.below x = c.all.foldl (c.belowStep x) [] := by unfold Clk.below; rw [if_pos hk]
    rw [e0]
    ((apply sm_seq); (apply sm_region; exact rfl; (repeat (first | exact noOut_ret | exact noOut_retM | exact noOut_rnd | apply noOut_then | apply noOut_block))); (apply so_box; (exact ev_); exact rfl; exact rfl; intro _); (apply so_box; (exact ev_); exact rfl; exact rfl; intro _); (refine ac_ ?_); refine sn_ ?_; (apply sm_seq); (apply sm_seq); (apply sm_region; exact rfl; (repeat (first | exact noOut_ret | exact noOut_retM | exact noOut_rnd | apply noOut_then | apply noOut_block))); (refine se_ (ex_load1 ev_ asm_ mem_ nth_) ?_); (refine se_ (ex_load1 ev_ asm_ mem_ nth_) ?_); (apply so_callq; (exact Ev.func); (focus ((apply EvL.cons; (exact ev_)); (apply EvL.cons; (exact ev_)); exact EvL.nil)); (focus (repeat (first | exact App.nil | apply App.cons))); assumption; exact ck; (exact sel_); exact rfl); (refine se_ (ex_not ev_) ?_); refine sn_ ?_; (apply sm_cond_false; (exact ev_)); (apply sm_skip); (apply nm_then); (apply sm_seq); (apply sm_region; exact rfl; (repeat (first | exact noOut_ret | exact noOut_retM | exact noOut_rnd | apply noOut_then | apply noOut_block))); (apply so_makeMap; exact rfl; intro _); (refine se_ (ex_load1 ev_ asm_ mem_ nth_) ?_); (apply so_insert; apply so_mapUp; (exact ev_); (intro _ _; (focus (repeat (first | exact Turn.here | apply Turn.there | apply Turn.pre)))); assumption; (exact ev_); (first | exact keyEq .. | exact rfl); (exact Ev.const); assumption; assumption; intro _ _ _); (refine mv_ ?_); (apply so_alloc; assumption; exact rfl; intro _); (apply so_store; (exact ev_); (exact ev_); assumption; exact rfl; exact rfl; exact rfl; (focus (repeat (first | exact Turn.here | apply Turn.there | apply Turn.pre))); (focus (repeat (first | exact SetSub.nil | apply SetSub.take | apply SetSub.drop)))); refine sn_ ?_; (apply sm_seq); (apply sm_region; exact rfl; (repeat (first | exact noOut_ret | exact noOut_retM | exact noOut_rnd | apply noOut_then | apply noOut_block))); (apply so_alloc; assumption; exact rfl; intro _); refine sn_ ?_; (apply sm_seq); (apply sm_seq); (apply sm_region; exact rfl; (repeat (first | exact noOut_ret | exact noOut_retM | exact noOut_rnd | apply noOut_then | apply noOut_block))); (refine se_ (ex_load1 ev_ asm_ mem_ nth_) ?_); (apply so_call; (exact Ev.func); (focus ((apply EvL.cons; (exact ev_)); exact EvL.nil)); (focus (repeat (first | exact App.nil | apply App.cons))); assumption; exact c1; (exact sel_); exact rfl; rintro _ _ ⟨bc, rfl, rfl⟩); refine sn_ ?_; (apply sm_block))
    rename_i bx bxx m es0 cl0 hM0 bm bs
    have c2 : ∀ y, onR y = true → TriQ Try.prog 66 #[cP cb, .int .i64 y] [cB cb c] (.int .i64 (c.above y)) := fun y h => above_tri hc cb h
    refine sm_range1 (by (exact ev_)) en80 (all_gives hc cb bc) rfl rfl
      (fun i Li => ∃ es cl ml sv B G, MapOf (K := Int) (Value.int .i64) ml es cl ∧ SetOf ml (x :: (c.all.take i).foldl (c.belowStep x) []) ∧ SlI ((c.all.take i).foldl (c.belowStep x) []) sv B ∧ Li.Perm (B ++ ((m, .map es cl) :: (bm, .cells [.map (some m)].toArray 119) :: (bs, .cells [sv].toArray 36) :: (bc, .cells [cP cb].toArray 53) :: (bxx, .cells [.int .i64 x].toArray 3) :: (bx, .cells [cP cb].toArray 53) :: cB cb c :: (G ++ R)))) (fun _ _ => False) ?_ ?_ ?_ ?_ ?_ ?_
    · rintro i Li R' ⟨es, cl, ml, sv, B, G, _, _, _, hp⟩
      exact ⟨List.mem_append_left _ (hp.mem_iff.2 (by (exact mem_))), List.mem_append_left _ (hp.mem_iff.2 (by (exact mem_)))⟩
    · refine ⟨es0, cl0, _, _, [], [], hM0, SetOf.one x, .empty, ?_⟩
      simp only [List.cons_append, List.nil_append]
      exact Sel.perm0 (by (exact sel_))
    · rintro lp i y Li R' hx ⟨es, cl, ml, sv, B, G, hM, hS, hB, hp⟩
      rw [List.getElem?_map] at hx
      obtain ⟨z, hz, rfl⟩ := Option.map_eq_some_iff.1 hx
      have hon : onR z = true := hc.all_on z (List.mem_of_getElem? hz)
      have c3 := c2 z hon
      refine sm_perm (hp.append_right R') ?_
      obtain ⟨hlt, hz'⟩ := List.getElem?_eq_some_iff.1 hz
      have htk : (c.all.take (i + 1)).foldl (c.belowStep x) [] = c.belowStep x ((c.all.take i).foldl (c.belowStep x) []) z := by rw [List.take_succ_eq_append_getElem hlt, hz', List.foldl_append]; rfl
      have hbl : ((c.all.take i).foldl (c.belowStep x) []).length ≤ 124 := by
        have h1 := below_len c x (c.all.take i) []
        have h2 := all_len c
        rw [List.length_take] at h1
        simp at h1; omega
      generalize (c.all.take i).foldl (c.belowStep x) [] = S at hS hB hbl htk
      obtain ⟨p, cap, rfl, hrow⟩ := hB
      have hlk := hS (c.above z)
      simp only [List.append_assoc, List.cons_append, List.nil_append]
      by_cases hzx : z = x
      · have e1 : c.belowStep x S z = S := by unfold Clk.belowStep; rw [if_neg (by simp [hzx])]
        rw [e1] at htk
        ((apply sm_block); (apply sm_seq); (apply sm_quiet; assumption; kernel_rfl; exact rfl); (refine qe_ (ex_move ev_) ?_); (refine qe_ (ex_load1 ev_ asm_ mem_ nth_) ?_); (refine qe_ (ex_neq_f ev_ ev_ om_) ?_); (refine qe_ (ex_move ev_) ?_); (refine qs_ ?_); (refine qs_ ?_); (refine qs_ ?_); (refine qs_ ?_); (refine qs_ ?_); (refine qe_ (ex_pick_f ev_ .const) ?_); (apply sq_nil); (apply nm_then); (apply sm_cond_false; (exact ev_)); (apply sm_skip); (apply nm_block))
        refine rnd_ok ⟨es, cl, ml, _, B, G, hM, by rw [htk]; exact hS, by rw [htk]; exact ⟨_, _, rfl, hrow⟩, .refl _⟩ (by simp only [List.append_assoc, List.cons_append, List.nil_append]; exact rfl) (by (exact sel_))
      · by_cases hab : c.above z ∈ x :: S
        · have e1 : c.belowStep x S z = S ++ [z] := by unfold Clk.belowStep; rw [if_pos ⟨hzx, hab⟩]
          rw [e1] at htk
          rw [decide_eq_true hab] at hlk
          ((apply sm_block); (apply sm_seq); (apply sm_quiet; assumption; kernel_rfl; exact rfl); (refine qe_ (ex_move ev_) ?_); (refine qe_ (ex_load1 ev_ asm_ mem_ nth_) ?_); (refine qe_ (ex_neq_t ev_ ev_ om_) ?_); (refine qe_ (ex_move ev_) ?_); (refine qw_ ?_); (refine qe_ (ex_load1 ev_ asm_ mem_ nth_) ?_); (refine qw_ ?_); (refine qe_ (ex_load1 ev_ asm_ mem_ nth_) ?_); (refine qw_ ?_); (refine qe_ (ex_move ev_) ?_); (refine qw_ ?_); (apply sq_call; (exact Ev.func); (focus ((apply EvL.cons; (exact ev_)); (apply EvL.cons; (exact ev_)); exact EvL.nil)); (focus (repeat (first | exact App.nil | apply App.cons))); assumption; exact c3; (exact sel_); exact rfl); (refine qw_ ?_); (apply sq_ex; (apply ex_look; (exact ev_); (exact mem_); assumption; (exact ev_); (first | exact keyEq .. | exact rfl); assumption; assumption; assumption; (first | exact lookEq .. | exact lookEq3 .. | exact lookEq4 .. | assumption | exact rfl)); exact rfl); (refine qe_ (ex_pick_t ev_ ev_) ?_); (apply sq_nil); (apply nm_then); (apply sm_cond_true; (exact ev_)); (apply sm_seq); (apply sm_region; exact rfl; (repeat (first | exact noOut_ret | exact noOut_retM | exact noOut_rnd | apply noOut_then | apply noOut_block))); (refine se_ (ex_load1 ev_ asm_ mem_ nth_) ?_); (refine mv_ ?_); (apply so_mapUp; (exact ev_); (intro _ _; (focus (repeat (first | exact Turn.here | apply Turn.there | apply Turn.pre)))); assumption; (exact ev_); (first | exact keyEq .. | exact rfl); (exact Ev.const); assumption; assumption; intro _ _ _); refine sn_ ?_; (apply sm_region; exact rfl; (repeat (first | exact noOut_ret | exact noOut_retM | exact noOut_rnd | apply noOut_then | apply noOut_block))); (refine se_ (ex_load1 ev_ asm_ mem_ nth_) ?_); (refine mv_ ?_); (apply so_buildS; (focus ((apply EvP.cons; (exact ev_)); exact EvP.nil)); assumption; assumption; assumption; (focus (repeat (first | exact SeqP.nil | (apply SeqP.cons; exact rfl; exact rfl) | exact App.nil | apply App.cons))); exact rfl; exact rfl; exact rfl; intro _); (apply so_appI; (exact ev_); (exact ev_); exact hrow; (exact sel_); (exact mem_); omega; assumption; assumption; assumption; assumption; exact rfl; intro o' cap' B' hrow'); (apply so_store; (exact ev_); (exact ev_); assumption; exact rfl; exact rfl; exact rfl; (focus (repeat (first | exact Turn.here | apply Turn.there | apply Turn.pre))); (focus (repeat (first | exact SetSub.nil | apply SetSub.take | apply SetSub.drop)))); (apply so_nil); (apply nm_block))
          refine rnd_ok ⟨_, _, _, .slice _ (S ++ [z]).length _, _, G, by assumption, by rw [htk]; exact hS.add z, by rw [htk]; exact ⟨_, _, rfl, by assumption⟩, .refl _⟩ (by simp only [List.append_assoc, List.cons_append, List.nil_append]; exact rfl) (by (exact sel_))
        · have e1 : c.belowStep x S z = S := by unfold Clk.belowStep; rw [if_neg fun h => hab h.2]
          rw [e1] at htk
          rw [decide_eq_false hab] at hlk
          ((apply sm_block); (apply sm_seq); (apply sm_quiet; assumption; kernel_rfl; exact rfl); (refine qe_ (ex_move ev_) ?_); (refine qe_ (ex_load1 ev_ asm_ mem_ nth_) ?_); (refine qe_ (ex_neq_t ev_ ev_ om_) ?_); (refine qe_ (ex_move ev_) ?_); (refine qw_ ?_); (refine qe_ (ex_load1 ev_ asm_ mem_ nth_) ?_); (refine qw_ ?_); (refine qe_ (ex_load1 ev_ asm_ mem_ nth_) ?_); (refine qw_ ?_); (refine qe_ (ex_move ev_) ?_); (refine qw_ ?_); (apply sq_call; (exact Ev.func); (focus ((apply EvL.cons; (exact ev_)); (apply EvL.cons; (exact ev_)); exact EvL.nil)); (focus (repeat (first | exact App.nil | apply App.cons))); assumption; exact c3; (exact sel_); exact rfl); (refine qw_ ?_); (apply sq_ex; (apply ex_look; (exact ev_); (exact mem_); assumption; (exact ev_); (first | exact keyEq .. | exact rfl); assumption; assumption; assumption; (first | exact lookEq .. | exact lookEq3 .. | exact lookEq4 .. | assumption | exact rfl)); exact rfl); (refine qe_ (ex_pick_t ev_ ev_) ?_); (apply sq_nil); (apply nm_then); (apply sm_cond_false; (exact ev_)); (apply sm_skip); (apply nm_block))
          refine rnd_ok ⟨es, cl, ml, _, B, G, hM, by rw [htk]; exact hS, by rw [htk]; exact ⟨_, _, rfl, hrow⟩, .refl _⟩ (by simp only [List.append_assoc, List.cons_append, List.nil_append]; exact rfl) (by (exact sel_))
    · rintro k Ld ⟨es, cl, ml, sv, B, G, hM, hS, hB, hp⟩
      rw [List.length_map, List.take_length] at hB
      obtain ⟨p, cap, rfl, hrow⟩ := hB
      apply nm_block
      apply nm_then
      refine sm_perm (hp.cons _) ?_
      ((apply sm_seq); (apply sm_region; exact rfl; (repeat (first | exact noOut_ret | exact noOut_retM | exact noOut_rnd | apply noOut_then | apply noOut_block))); (refine se_ (ex_load1 ev_ asm_ mem_ nth_) ?_); (refine asg_ ?_); refine sn_ ?_; (apply sm_ret); (apply retM_mark; (exact pick_); apply ret_ok; (focus ((apply Res.tmp; (exact ev_)); exact Res.nil)); (exact ⟨_, ⟨_, _, rfl, hrow⟩, rfl⟩); (exact sel_); (exact appb_)))
    · intro _ _ h; exact h.elim
    · intro _ _ _ h; exact h.elim
  · have e0 : c.below x = [] := by unfold Clk.below; rw [if_neg hk]
    rw [Bool.not_eq_true] at hk
    rw [hk] at ck
    rw [e0]
    ((apply sm_seq); (apply sm_region; exact rfl; (repeat (first | exact noOut_ret | exact noOut_retM | exact noOut_rnd | apply noOut_then | apply noOut_block))); (apply so_box; (exact ev_); exact rfl; exact rfl; intro _); (apply so_box; (exact ev_); exact rfl; exact rfl; intro _); (refine ac_ ?_); refine sn_ ?_; (apply sm_seq); (apply sm_seq); (apply sm_region; exact rfl; (repeat (first | exact noOut_ret | exact noOut_retM | exact noOut_rnd | apply noOut_then | apply noOut_block))); (refine se_ (ex_load1 ev_ asm_ mem_ nth_) ?_); (refine se_ (ex_load1 ev_ asm_ mem_ nth_) ?_); (apply so_callq; (exact Ev.func); (focus ((apply EvL.cons; (exact ev_)); (apply EvL.cons; (exact ev_)); exact EvL.nil)); (focus (repeat (first | exact App.nil | apply App.cons))); assumption; exact ck; (exact sel_); exact rfl); (refine se_ (ex_not ev_) ?_); refine sn_ ?_; (apply sm_cond_true; (exact ev_)); (apply sm_seq); (apply sm_region; exact rfl; (repeat (first | exact noOut_ret | exact noOut_retM | exact noOut_rnd | apply noOut_then | apply noOut_block))); (refine ac_ ?_); refine sn_ ?_; (apply sm_ret); (apply rt_then); (apply retM_nil; apply ret_ok; (focus ((apply Res.tmp; (exact ev_)); exact Res.nil)); (exact ⟨[], .empty, rfl⟩); (exact sel_); (exact appb_)))
end Go.Proofs.Ytfkpjnomfmjplaa
namespace Go.Proofs.Ytfkpjnomfmjplaa
open Go.Sym
theorem ck_sub1 {c : Clk} {s : Int} {i : Nat} (hi : i < 128) : SetSub (ck c) (0 + 2 + i * 2 + 0) [.int .i64 s] (ck (c.setSt (i : Int) s)) := by
  rw [ck_setSt (k := 0 + 2 + i * 2 + 0) rfl hi (by omega)]
  exact setSub_mk _ _ _ (by rw [ck_len]; simp; omega)
theorem ck_sub2 {c : Clk} {a : Int} {i : Nat} (hn : c.next = (i : Int)) (hi : i < 128) : SetSub (ck c) (0 + 2 + i * 2) [.int .i64 1, .int .i64 a] (ck { c with st := fun y => if y = c.next then 1 else c.st y, ab := fun y => if y = c.next then a else c.ab y }) := by
  rw [ck_begin1 (k := 0 + 2 + i * 2) hn hi (by omega)]
  exact setSub_mk _ _ _ (by rw [ck_len]; simp; omega)
theorem ck_sub3 {c : Clk} {n : Int} : SetSub (ck c) (0 + 1) [.int .i64 n] (ck { c with next := n }) := by
  rw [ck_setNext (c := c) (n := n) (k := 0 + 1) (by omega)]
  exact setSub_mk _ _ _ (by rw [ck_len]; simp)
theorem ck_sub4 {c : Clk} {n : Int} : SetSub (ck c) (0 + 0) [.int .i64 n] (ck { c with low := n }) := by
  rw [ck_setLow (c := c) (n := n) (k := 0 + 0) (by omega)]
  exact setSub_mk _ _ _ (by rw [ck_len]; simp)
theorem knows_on {c : Clk} {x : Int} (h : c.knows x = true) : onR x = true := by
  unfold Clk.knows at h; rw [Bool.and_eq_true] at h; exact h.1
theorem endFold_ok {s : Int} {c : Clk} (hc : ClkOk c) (l : List Int) : ClkOk (l.foldl (Clk.endStep s) c) := by
  induction l generalizing c with
  | nil => exact hc
  | cons y l ih =>
    rw [List.foldl_cons]
    apply ih
    unfold Clk.endStep; split
    · exact ⟨hc.low, hc.next⟩
    · exact hc
theorem endAt_ok {c : Clk} (hc : ClkOk c) (x s : Int) : ClkOk (c.endAt x s) := by
  unfold Clk.endAt; split
  · exact endFold_ok hc _
  · exact hc
theorem beginAt_ok {c : Clk} (hc : ClkOk c) (a : Int) : ClkOk (c.beginAt a) := by
  unfold Clk.beginAt; split
  · exact hc
  · split
    · exact hc
    · exact ⟨hc.low, onR_next _⟩
set_option maxHeartbeats 4000000 in
theorem end_tri {c : Clk} (hc : ClkOk c) (cb : Nat) (x s : Int) : Tri Try.prog 43 #[cP cb, .int .i64 x, .int .i64 s] [cB cb c] fun v L => (∃ e, v = .int .i64 e) ∧ L = [cB cb (c.endAt x s)] := by
  have f_mixed := mixed; have f_by3 := by3; have f_en62 := en62; have f_en70 := en70; have f_en71 := en71; have f_fo102_0 := fo102_0; have f_fo105_2 := fo105_2; have f_ty3 := ty3; have f_ty36 := ty36; have f_ty102 := ty102; have f_ty103 := ty103; have f_un_36 : Und Try.prog 36 _ := ⟨Try.underlying36⟩; have f_un_103 : Und Try.prog 103 _ := ⟨Try.underlying103⟩; have f_zero3 := zero3; have f_zero102 := zero102; have f_zv3 := zv3; have f_zv102 := zv102
  have c1 := knows_tri hc cb x
  by_cases he : c.ends x s = true
  · have he' := he
    unfold Clk.ends at he
    simp only [Bool.and_eq_true, decide_eq_true_eq] at he
    obtain ⟨⟨⟨⟨h2, h4⟩, hk⟩, hl⟩, hs⟩ := he
    have e0 : c.endAt x s = (c.below x ++ [x]).foldl (Clk.endStep s) c := by unfold Clk.endAt; rw [if_pos he']
    have hon := knows_on hk
    have c2 := live_tri c cb hon
    rw [hk] at c1
    rw [hl] at c2
    have c4 := below_tri hc cb x
    have hall : ∀ y ∈ c.below x ++ [x], onR y = true := fun y hy => by
      rcases List.mem_append.1 hy with h | h
      · exact below_on hc x y h
      · rw [List.mem_singleton.1 h]; exact hon
    have hlen := below_le c x
    rw [e0]
    clear e0
    obtain ⟨xi, hxi, hxi2, hxi3⟩ := on_nat hon
    subst hxi
    refine tri_intro (args := [_, _, _]) Try.func43 rfl Try.ntmps43 rfl (rs := _) rfl rfl fun E R => ?_
    simp only [fr, List.cons_append, List.nil_append]
    have n1 : ¬ s < 2 := by omega
    have n2 : ¬ s > 4 := by omega
    (refine sr_ ?_; (refine ac_ ?_); refine sn_ ?_; (apply sc_seq); refine sr_ ?_; (refine mv_ ?_); (refine se_ (ex_lss_f ev_ .const om_) ?_); (refine mv_ ?_); (refine wt_ ?_); (refine mv_ ?_); (refine wt_ ?_); (refine se_ (ex_gtr_f ev_ .const om_) ?_); (refine se_ (ex_pick_f ev_ ev_) ?_); (refine mv_ ?_); (refine wt_ ?_); (refine mv_ ?_); (refine wt_ ?_); (refine mv_ ?_); (refine wt_ ?_); (apply so_callq; (exact Ev.func); (focus ((apply EvL.cons; (exact ev_)); (apply EvL.cons; (exact ev_)); exact EvL.nil)); (focus (repeat (first | exact App.nil | apply App.cons))); assumption; exact c1; (exact sel_); exact rfl); (refine wt_ ?_); (refine se_ (ex_not ev_) ?_); (refine se_ (ex_pick_f ev_ ev_) ?_); (refine mv_ ?_); (refine wt_ ?_); (refine mv_ ?_); (refine wt_ ?_); (refine mv_ ?_); (refine wt_ ?_); (apply so_callq; (exact Ev.func); (focus ((apply EvL.cons; (exact ev_)); (apply EvL.cons; (exact ev_)); exact EvL.nil)); (focus (repeat (first | exact App.nil | apply App.cons))); assumption; exact c2; (exact sel_); exact rfl); (refine wt_ ?_); (refine se_ (ex_not ev_) ?_); (refine se_ (ex_pick_f ev_ ev_) ?_); (refine mv_ ?_); (refine wt_ ?_); (refine mv_ ?_); (refine wt_ ?_); (refine mv_ ?_); (refine wt_ ?_); (refine se_ (ex_nilCheck ev_) ?_); (refine wt_ ?_); (refine se_ (ex_fieldAddr ev_ asm_) ?_); (refine wt_ ?_); (refine se_ (ex_indexArr ev_ ev_ asm_ asm_ lit_ lt_) ?_); (refine wt_ ?_); (refine se_ (ex_fieldAddr ev_ asm_) ?_); (refine wt_ ?_); (refine se_ (ex_cks ev_ asm_ mem_ lt_) ?_); (refine wt_ ?_); (refine mv_ ?_); (refine wt_ ?_); (refine se_ (ex_eql_f ev_ ev_ om_) ?_); (refine se_ (ex_pick_f ev_ ev_) ?_); refine sn_ ?_; (refine cf_ ?_); (apply sc_skip); (apply nm_then); (apply sc_seq); refine sr_ ?_; (refine mv_ ?_); (refine mv_ ?_))
    (apply so_call; (exact Ev.func); (focus ((apply EvL.cons; (exact ev_)); (apply EvL.cons; (exact ev_)); exact EvL.nil)); (focus (repeat (first | exact App.nil | apply App.cons))); assumption; (exact c4); (exact sel_); exact rfl)
    rintro v L ⟨B, ⟨p, cap, rfl, hrow⟩, rfl⟩
    generalize hS : c.below (xi : Int) = S at *
    simp only [List.append_assoc, List.cons_append, List.nil_append]
    ((refine mv_ ?_); (apply so_buildS; (focus ((apply EvP.cons; (exact ev_)); exact EvP.nil)); assumption; assumption; assumption; (focus (repeat (first | exact SeqP.nil | (apply SeqP.cons; exact rfl; exact rfl) | exact App.nil | apply App.cons))); exact rfl; exact rfl; exact rfl; intro _); (apply so_appI; (exact ev_); (exact ev_); exact hrow; (exact sel_); (exact mem_); omega; assumption; assumption; assumption; assumption; exact rfl; intro o' cap' B' hrow'); (refine se_ (ex_len_slice ev_ asm_) ?_); (refine se_ (ex_move .const) ?_); refine sn_ ?_; (apply sc_block))
    have hall2 : ∀ y ∈ S ++ [(xi : Int)], onR y = true := hall
    have hne : S ++ [(xi : Int)] ≠ [] := by simp
    have hzl : (S ++ [(xi : Int)]).length ≤ 125 := by simp; omega
    generalize S ++ [(xi : Int)] = zs at hrow' hall2 hne hzl
    rcases SlI.cases ⟨_, _, rfl, hrow'⟩ with ⟨h0, _⟩ | ⟨b5, cap5, junk5, hv5, hj5, rfl⟩
    · exact absurd h0 hne
    injection hv5 with hv5 _ hcap
    subst hv5 hcap
    simp only [List.cons_append, List.nil_append]
    refine sc_loop (fun k f L => ∃ i : Nat, k = zs.length - i ∧ i ≤ zs.length ∧ At f 0 (cP cb) ∧ At f 2 (.int .i64 s) ∧ At f 43 (.slice (some ⟨b5, 0, none⟩) zs.length cap') ∧ At f 44 (.int .i64 (zs.length : Int)) ∧ At f 45 (.int .i64 (i : Int)) ∧
      Held L [(b5, .cells (zs.map (Value.int .i64) ++ junk5).toArray 3), cB cb ((zs.take i).foldl (Clk.endStep s) c)] R)
      _ ⟨0, rfl, Nat.zero_le _, at_, at_, at_, at_, at_, held_⟩ ?_
    rintro k f L ⟨i, hk, hi, a0, a2, a43, a44, a45, ⟨G, hG⟩⟩
    refine sc_perm hG ?_
    simp only [List.append_assoc, List.cons_append, List.nil_append]
    by_cases hlt : i < zs.length
    · have hlt' : (i : Int) < (zs.length : Int) := by omega
      have e1 : ((i + 1 : Nat) : Int) = (i : Int) + 1 := by omega
      have hz := zs_nth (junk := junk5) hlt
      have htk : (zs.take (i + 1)).foldl (Clk.endStep s) c = Clk.endStep s ((zs.take i).foldl (Clk.endStep s) c) zs[i] := by rw [List.take_succ_eq_append_getElem hlt, List.foldl_append]; rfl
      have hoy := hall2 _ (List.getElem_mem hlt)
      obtain ⟨yi, hyi, hyi2, _⟩ := on_nat hoy
      have c3 := live_tri ((zs.take i).foldl (Clk.endStep s) c) cb hoy
      generalize hC : (zs.take i).foldl (Clk.endStep s) c = c' at *
      rw [hyi] at hz htk c3
      cases hlv : c'.live (yi : Int) with
      | true =>
        rw [hlv] at c3
        rw [show Clk.endStep s c' (yi : Int) = c'.setSt (yi : Int) s by unfold Clk.endStep; rw [if_pos hlv]] at htk
        (refine sr_ ?_; (refine se_ (ex_lss_t ev_ ev_ om_) ?_); refine sn_ ?_; (apply sc_seq); (refine ct_ ?_); (apply sc_skip); (apply nm_then); (apply sc_seq); (apply sc_block); refine sr_ ?_; (refine se_ (ex_indexAddr ev_ ev_ asm_ asm_ lit_ lt_) ?_); (apply so_ex; (apply ex_load1r; (exact ev_); assumption; (exact mem_); exact hz); exact rfl); (refine asg_ ?_); refine sn_ ?_; refine sr_ ?_; (refine mv_ ?_); (refine mv_ ?_); (apply so_callq; (exact Ev.func); (focus ((apply EvL.cons; (exact ev_)); (apply EvL.cons; (exact ev_)); exact EvL.nil)); (focus (repeat (first | exact App.nil | apply App.cons))); assumption; exact c3; (exact sel_); exact rfl); refine sn_ ?_; (refine ct_ ?_); (apply sc_region); (refine mv_ ?_); (refine mv_ ?_); (refine mv_ ?_); (refine se_ (ex_nilCheck ev_) ?_); (refine se_ (ex_fieldAddr ev_ asm_) ?_); (refine se_ (ex_indexArr ev_ ev_ asm_ asm_ lit_ lt_) ?_); (refine se_ (ex_fieldAddr ev_ asm_) ?_); (apply so_store; (exact ev_); (exact ev_); assumption; exact rfl; exact rfl; exact rfl; (focus (repeat (first | exact Turn.here | apply Turn.there | apply Turn.pre))); exact ck_sub1 hyi2); (apply so_nil); (apply nm_block); (apply nm_then); (apply sc_region); (refine se_ (ex_add ev_ .const wr_) ?_); (refine mv_ ?_); (apply so_nil); (apply nm_then))
        exact ⟨zs.length - (i + 1), by omega, i + 1, rfl, by omega, at_, at_, at_, at_, by rw [e1]; exact at_, by rw [htk]; exact held_⟩
      | false =>
        rw [hlv] at c3
        rw [show Clk.endStep s c' (yi : Int) = c' by unfold Clk.endStep; rw [if_neg (by rw [hlv]; simp)]] at htk
        (refine sr_ ?_; (refine se_ (ex_lss_t ev_ ev_ om_) ?_); refine sn_ ?_; (apply sc_seq); (refine ct_ ?_); (apply sc_skip); (apply nm_then); (apply sc_seq); (apply sc_block); refine sr_ ?_; (refine se_ (ex_indexAddr ev_ ev_ asm_ asm_ lit_ lt_) ?_); (apply so_ex; (apply ex_load1r; (exact ev_); assumption; (exact mem_); exact hz); exact rfl); (refine asg_ ?_); refine sn_ ?_; refine sr_ ?_; (refine mv_ ?_); (refine mv_ ?_); (apply so_callq; (exact Ev.func); (focus ((apply EvL.cons; (exact ev_)); (apply EvL.cons; (exact ev_)); exact EvL.nil)); (focus (repeat (first | exact App.nil | apply App.cons))); assumption; exact c3; (exact sel_); exact rfl); refine sn_ ?_; (refine cf_ ?_); (apply sc_skip); (apply nm_block); (apply nm_then); (apply sc_region); (refine se_ (ex_add ev_ .const wr_) ?_); (refine mv_ ?_); (apply so_nil); (apply nm_then))
        exact ⟨zs.length - (i + 1), by omega, i + 1, rfl, by omega, at_, at_, at_, at_, by rw [e1]; exact at_, by rw [htk]; exact held_⟩
    · have hlt' : ¬ (i : Int) < (zs.length : Int) := by omega
      obtain rfl : i = zs.length := by omega
      rw [List.take_length]
      (refine sr_ ?_; (refine se_ (ex_lss_f ev_ ev_ om_) ?_); refine sn_ ?_; (apply sc_seq); (refine cf_ ?_); (apply sc_exit); (apply et_then); (apply et_then); (apply et_hit); (apply nm_then); refine sr_ ?_; (refine ac_ ?_); refine sn_ ?_; (apply sc_ret); (apply ret_ok; (focus ((apply Res.tmp; (exact ev_)); exact Res.nil)); (exact ⟨⟨_, rfl⟩, rfl⟩); (exact sel_); (exact appb_)))
  · have e0 : c.endAt x s = c := by unfold Clk.endAt; rw [if_neg he]
    rw [e0]
    refine tri_intro (args := [_, _, _]) Try.func43 rfl Try.ntmps43 rfl (rs := _) rfl rfl fun E R => ?_
    simp only [fr, List.cons_append, List.nil_append]
    by_cases h2 : s < 2
    · (refine sr_ ?_; (refine ac_ ?_); refine sn_ ?_; (apply sc_seq); refine sr_ ?_; (refine mv_ ?_); (refine se_ (ex_lss_t ev_ .const om_) ?_); (refine mv_ ?_); (refine sk_ ?_); (refine sk_ ?_); (refine se_ (ex_pick_t ev_ .const) ?_); (refine mv_ ?_); (refine sk_ ?_); (refine sk_ ?_); (refine sk_ ?_); (refine sk_ ?_); (refine se_ (ex_pick_t ev_ .const) ?_); (refine mv_ ?_); (refine sk_ ?_); (refine sk_ ?_); (refine sk_ ?_); (refine sk_ ?_); (refine se_ (ex_pick_t ev_ .const) ?_); (refine mv_ ?_); (refine sk_ ?_); (refine sk_ ?_); (refine sk_ ?_); (refine sk_ ?_); (refine sk_ ?_); (refine sk_ ?_); (refine sk_ ?_); (refine sk_ ?_); (refine sk_ ?_); (refine se_ (ex_pick_t ev_ .const) ?_); refine sn_ ?_; (refine ct_ ?_); refine sr_ ?_; (refine ac_ ?_); refine sn_ ?_; (apply sc_ret); (apply rt_then); (apply ret_ok; (focus ((apply Res.tmp; (exact ev_)); exact Res.nil)); (exact ⟨⟨_, rfl⟩, rfl⟩); (exact sel_); (exact appb_)))
    · by_cases h4 : s > 4
      · (refine sr_ ?_; (refine ac_ ?_); refine sn_ ?_; (apply sc_seq); refine sr_ ?_; (refine mv_ ?_); (refine se_ (ex_lss_f ev_ .const om_) ?_); (refine mv_ ?_); (refine wt_ ?_); (refine mv_ ?_); (refine wt_ ?_); (refine se_ (ex_gtr_t ev_ .const om_) ?_); (refine se_ (ex_pick_f ev_ ev_) ?_); (refine mv_ ?_); (refine sk_ ?_); (refine sk_ ?_); (refine sk_ ?_); (refine sk_ ?_); (refine se_ (ex_pick_t ev_ .const) ?_); (refine mv_ ?_); (refine sk_ ?_); (refine sk_ ?_); (refine sk_ ?_); (refine sk_ ?_); (refine se_ (ex_pick_t ev_ .const) ?_); (refine mv_ ?_); (refine sk_ ?_); (refine sk_ ?_); (refine sk_ ?_); (refine sk_ ?_); (refine sk_ ?_); (refine sk_ ?_); (refine sk_ ?_); (refine sk_ ?_); (refine sk_ ?_); (refine se_ (ex_pick_t ev_ .const) ?_); refine sn_ ?_; (refine ct_ ?_); refine sr_ ?_; (refine ac_ ?_); refine sn_ ?_; (apply sc_ret); (apply rt_then); (apply ret_ok; (focus ((apply Res.tmp; (exact ev_)); exact Res.nil)); (exact ⟨⟨_, rfl⟩, rfl⟩); (exact sel_); (exact appb_)))
      · by_cases hk : c.knows x = true
        · rw [hk] at c1
          have hon := knows_on hk
          have c2 := live_tri c cb hon
          obtain ⟨xi, rfl, hxi, _⟩ := on_nat hon
          by_cases hl : c.live (xi : Int) = true
          · rw [hl] at c2
            have hs : c.st (xi : Int) = s := Classical.byContradiction fun h => he (by
              unfold Clk.ends
              simp only [Bool.and_eq_true, decide_eq_true_eq]
              exact ⟨⟨⟨⟨by omega, by omega⟩, hk⟩, hl⟩, h⟩)
            (refine sr_ ?_; (refine ac_ ?_); refine sn_ ?_; (apply sc_seq); refine sr_ ?_; (refine mv_ ?_); (refine se_ (ex_lss_f ev_ .const om_) ?_); (refine mv_ ?_); (refine wt_ ?_); (refine mv_ ?_); (refine wt_ ?_); (refine se_ (ex_gtr_f ev_ .const om_) ?_); (refine se_ (ex_pick_f ev_ ev_) ?_); (refine mv_ ?_); (refine wt_ ?_); (refine mv_ ?_); (refine wt_ ?_); (refine mv_ ?_); (refine wt_ ?_); (apply so_callq; (exact Ev.func); (focus ((apply EvL.cons; (exact ev_)); (apply EvL.cons; (exact ev_)); exact EvL.nil)); (focus (repeat (first | exact App.nil | apply App.cons))); assumption; exact c1; (exact sel_); exact rfl); (refine wt_ ?_); (refine se_ (ex_not ev_) ?_); (refine se_ (ex_pick_f ev_ ev_) ?_); (refine mv_ ?_); (refine wt_ ?_); (refine mv_ ?_); (refine wt_ ?_); (refine mv_ ?_); (refine wt_ ?_); (apply so_callq; (exact Ev.func); (focus ((apply EvL.cons; (exact ev_)); (apply EvL.cons; (exact ev_)); exact EvL.nil)); (focus (repeat (first | exact App.nil | apply App.cons))); assumption; exact c2; (exact sel_); exact rfl); (refine wt_ ?_); (refine se_ (ex_not ev_) ?_); (refine se_ (ex_pick_f ev_ ev_) ?_); (refine mv_ ?_); (refine wt_ ?_); (refine mv_ ?_); (refine wt_ ?_); (refine mv_ ?_); (refine wt_ ?_); (refine se_ (ex_nilCheck ev_) ?_); (refine wt_ ?_); (refine se_ (ex_fieldAddr ev_ asm_) ?_); (refine wt_ ?_); (refine se_ (ex_indexArr ev_ ev_ asm_ asm_ lit_ lt_) ?_); (refine wt_ ?_); (refine se_ (ex_fieldAddr ev_ asm_) ?_); (refine wt_ ?_); (refine se_ (ex_cks ev_ asm_ mem_ lt_) ?_); (refine wt_ ?_); (refine mv_ ?_); (refine wt_ ?_); (refine se_ (ex_eql_t ev_ ev_ om_) ?_); (refine se_ (ex_pick_f ev_ ev_) ?_); refine sn_ ?_; (refine ct_ ?_); refine sr_ ?_; (refine ac_ ?_); refine sn_ ?_; (apply sc_ret); (apply rt_then); (apply ret_ok; (focus ((apply Res.tmp; (exact ev_)); exact Res.nil)); (exact ⟨⟨_, rfl⟩, rfl⟩); (exact sel_); (exact appb_)))
          · rw [Bool.not_eq_true] at hl
            rw [hl] at c2
            (refine sr_ ?_; (refine ac_ ?_); refine sn_ ?_; (apply sc_seq); refine sr_ ?_; (refine mv_ ?_); (refine se_ (ex_lss_f ev_ .const om_) ?_); (refine mv_ ?_); (refine wt_ ?_); (refine mv_ ?_); (refine wt_ ?_); (refine se_ (ex_gtr_f ev_ .const om_) ?_); (refine se_ (ex_pick_f ev_ ev_) ?_); (refine mv_ ?_); (refine wt_ ?_); (refine mv_ ?_); (refine wt_ ?_); (refine mv_ ?_); (refine wt_ ?_); (apply so_callq; (exact Ev.func); (focus ((apply EvL.cons; (exact ev_)); (apply EvL.cons; (exact ev_)); exact EvL.nil)); (focus (repeat (first | exact App.nil | apply App.cons))); assumption; exact c1; (exact sel_); exact rfl); (refine wt_ ?_); (refine se_ (ex_not ev_) ?_); (refine se_ (ex_pick_f ev_ ev_) ?_); (refine mv_ ?_); (refine wt_ ?_); (refine mv_ ?_); (refine wt_ ?_); (refine mv_ ?_); (refine wt_ ?_); (apply so_callq; (exact Ev.func); (focus ((apply EvL.cons; (exact ev_)); (apply EvL.cons; (exact ev_)); exact EvL.nil)); (focus (repeat (first | exact App.nil | apply App.cons))); assumption; exact c2; (exact sel_); exact rfl); (refine wt_ ?_); (refine se_ (ex_not ev_) ?_); (refine se_ (ex_pick_f ev_ ev_) ?_); (refine mv_ ?_); (refine sk_ ?_); (refine sk_ ?_); (refine sk_ ?_); (refine sk_ ?_); (refine sk_ ?_); (refine sk_ ?_); (refine sk_ ?_); (refine sk_ ?_); (refine sk_ ?_); (refine se_ (ex_pick_t ev_ .const) ?_); refine sn_ ?_; (refine ct_ ?_); refine sr_ ?_; (refine ac_ ?_); refine sn_ ?_; (apply sc_ret); (apply rt_then); (apply ret_ok; (focus ((apply Res.tmp; (exact ev_)); exact Res.nil)); (exact ⟨⟨_, rfl⟩, rfl⟩); (exact sel_); (exact appb_)))
        · rw [Bool.not_eq_true] at hk
          rw [hk] at c1
          (refine sr_ ?_; (refine ac_ ?_); refine sn_ ?_; (apply sc_seq); refine sr_ ?_; (refine mv_ ?_); (refine se_ (ex_lss_f ev_ .const om_) ?_); (refine mv_ ?_); (refine wt_ ?_); (refine mv_ ?_); (refine wt_ ?_); (refine se_ (ex_gtr_f ev_ .const om_) ?_); (refine se_ (ex_pick_f ev_ ev_) ?_); (refine mv_ ?_); (refine wt_ ?_); (refine mv_ ?_); (refine wt_ ?_); (refine mv_ ?_); (refine wt_ ?_); (apply so_callq; (exact Ev.func); (focus ((apply EvL.cons; (exact ev_)); (apply EvL.cons; (exact ev_)); exact EvL.nil)); (focus (repeat (first | exact App.nil | apply App.cons))); assumption; exact c1; (exact sel_); exact rfl); (refine wt_ ?_); (refine se_ (ex_not ev_) ?_); (refine se_ (ex_pick_f ev_ ev_) ?_); (refine mv_ ?_); (refine sk_ ?_); (refine sk_ ?_); (refine sk_ ?_); (refine sk_ ?_); (refine se_ (ex_pick_t ev_ .const) ?_); (refine mv_ ?_); (refine sk_ ?_); (refine sk_ ?_); (refine sk_ ?_); (refine sk_ ?_); (refine sk_ ?_); (refine sk_ ?_); (refine sk_ ?_); (refine sk_ ?_); (refine sk_ ?_); (refine se_ (ex_pick_t ev_ .const) ?_); refine sn_ ?_; (refine ct_ ?_); refine sr_ ?_; (refine ac_ ?_); refine sn_ ?_; (apply sc_ret); (apply rt_then); (apply ret_ok; (focus ((apply Res.tmp; (exact ev_)); exact Res.nil)); (exact ⟨⟨_, rfl⟩, rfl⟩); (exact sel_); (exact appb_)))
set_option maxHeartbeats 4000000 in
theorem begin_tri {c : Clk} (hc : ClkOk c) (cb : Nat) (a : Int) : Tri Try.prog 51 #[cP cb, .int .i64 a] [cB cb c] fun v L => v = .tuple #[.int .i64 (c.beginX a), .int .i64 (c.beginE a)] ∧ L = [cB cb (c.beginAt a)] := by
  have f_mixed := mixed; have f_en62 := en62; have f_en64 := en64; have f_en75 := en75; have f_fo102_0 := fo102_0; have f_fo105_0 := fo105_0; have f_fo105_1 := fo105_1; have f_fo105_2 := fo105_2; have f_pl102_0 := pl102_0; have f_pl102_1 := pl102_1; have f_st102 := st102; have f_ty3 := ty3; have f_ty102 := ty102; have f_ty103 := ty103; have f_un_53 : Und Try.prog 53 _ := ⟨Try.underlying53⟩; have f_un_103 : Und Try.prog 103 _ := ⟨Try.underlying103⟩; have f_zero102 := zero102; have f_zv102 := zv102
  have c1 := knows_tri hc cb a
  have c2 := steps_tri hc.low hc.next
  have c3 := next_tri c.next
  by_cases hb : c.bad a = true
  · have e1 : c.beginX a = 0 := by unfold Clk.beginX; rw [if_pos hb]
    have e2 : c.beginE a = 1 := by unfold Clk.beginE; rw [if_pos hb]
    have e3 : c.beginAt a = c := by unfold Clk.beginAt; rw [if_pos hb]
    rw [e1, e2, e3]
    unfold Clk.bad at hb
    simp only [Bool.and_eq_true, decide_eq_true_eq, Bool.or_eq_true, Bool.not_eq_true'] at hb
    obtain ⟨ha, hb⟩ := hb
    refine tri_intro (args := [_, _]) Try.func51 rfl Try.ntmps51 rfl (rs := _) rfl rfl fun E R => ?_
    simp only [fr, List.cons_append, List.nil_append]
    cases hk : c.knows a with
    | false =>
      rw [hk] at c1
      (refine sr_ ?_; (refine ac_ ?_); (refine ac_ ?_); refine sn_ ?_; (apply sc_seq); (apply sc_block); (apply sc_seq); refine sr_ ?_; (refine mv_ ?_); (refine se_ (ex_eqp_f ev_ .const asm_) ?_); (refine asg_ ?_); refine sn_ ?_; (refine cf_ ?_); (apply sc_region); (refine mv_ ?_); (refine se_ (ex_neq_t ev_ .const om_) ?_); (refine mv_ ?_); (refine wt_ ?_); (refine mv_ ?_); (refine wt_ ?_); (refine mv_ ?_); (refine wt_ ?_); (apply so_callq; (exact Ev.func); (focus ((apply EvL.cons; (exact ev_)); (apply EvL.cons; (exact ev_)); exact EvL.nil)); (focus (repeat (first | exact App.nil | apply App.cons))); assumption; exact c1; (exact sel_); exact rfl); (refine wt_ ?_); (refine se_ (ex_not ev_) ?_); (refine wt_ ?_); (refine mv_ ?_); (refine sk_ ?_); (refine sk_ ?_); (refine sk_ ?_); (refine sk_ ?_); (refine sk_ ?_); (refine sk_ ?_); (refine sk_ ?_); (refine sk_ ?_); (refine wt_ ?_); (refine se_ (ex_pick_t ev_ .const) ?_); (refine se_ (ex_pick_t ev_ ev_) ?_); (refine asg_ ?_); refine sn_ ?_; (refine ct_ ?_); refine sr_ ?_; (refine ac_ ?_); (refine ac_ ?_); refine sn_ ?_; (apply sc_ret); (apply rt_block); (apply rt_then); (apply ret_ok; (focus ((apply Res.tmp; (exact ev_)); (apply Res.tmp; (exact ev_)); exact Res.nil)); (exact ⟨rfl, rfl⟩); (exact sel_); (exact appb_)))
    | true =>
      rw [hk] at c1 hb
      obtain ⟨ai, rfl, hai, _⟩ := on_nat (knows_on hk)
      have hs : ¬ c.st (ai : Int) = 1 := by simpa using hb
      (refine sr_ ?_; (refine ac_ ?_); (refine ac_ ?_); refine sn_ ?_; (apply sc_seq); (apply sc_block); (apply sc_seq); refine sr_ ?_; (refine mv_ ?_); (refine se_ (ex_eqp_f ev_ .const asm_) ?_); (refine asg_ ?_); refine sn_ ?_; (refine cf_ ?_); (apply sc_region); (refine mv_ ?_); (refine se_ (ex_neq_t ev_ .const om_) ?_); (refine mv_ ?_); (refine wt_ ?_); (refine mv_ ?_); (refine wt_ ?_); (refine mv_ ?_); (refine wt_ ?_); (apply so_callq; (exact Ev.func); (focus ((apply EvL.cons; (exact ev_)); (apply EvL.cons; (exact ev_)); exact EvL.nil)); (focus (repeat (first | exact App.nil | apply App.cons))); assumption; exact c1; (exact sel_); exact rfl); (refine wt_ ?_); (refine se_ (ex_not ev_) ?_); (refine wt_ ?_); (refine mv_ ?_); (refine wt_ ?_); (refine mv_ ?_); (refine wt_ ?_); (refine mv_ ?_); (refine wt_ ?_); (refine se_ (ex_nilCheck ev_) ?_); (refine wt_ ?_); (refine se_ (ex_fieldAddr ev_ asm_) ?_); (refine wt_ ?_); (refine se_ (ex_indexArr ev_ ev_ asm_ asm_ lit_ lt_) ?_); (refine wt_ ?_); (refine se_ (ex_fieldAddr ev_ asm_) ?_); (refine wt_ ?_); (refine se_ (ex_cks ev_ asm_ mem_ lt_) ?_); (refine wt_ ?_); (refine se_ (ex_neq_t ev_ .const om_) ?_); (refine wt_ ?_); (refine se_ (ex_pick_f ev_ ev_) ?_); (refine se_ (ex_pick_t ev_ ev_) ?_); (refine asg_ ?_); refine sn_ ?_; (refine ct_ ?_); refine sr_ ?_; (refine ac_ ?_); (refine ac_ ?_); refine sn_ ?_; (apply sc_ret); (apply rt_block); (apply rt_then); (apply ret_ok; (focus ((apply Res.tmp; (exact ev_)); (apply Res.tmp; (exact ev_)); exact Res.nil)); (exact ⟨rfl, rfl⟩); (exact sel_); (exact appb_)))
  · have hb' : a = 0 ∨ (c.knows a = true ∧ c.st a = 1) := by
      unfold Clk.bad at hb
      by_cases ha : a = 0
      · exact .inl ha
      · right
        cases hk : c.knows a with
        | false => exact absurd (by simp [ha, hk]) hb
        | true =>
          by_cases hs : c.st a = 1
          · exact ⟨rfl, hs⟩
          · exact absurd (by simp [ha, hs]) hb
    by_cases hf : c.full = true
    · have e1 : c.beginX a = 0 := by unfold Clk.beginX; rw [if_neg hb, if_pos hf]
      have e2 : c.beginE a = 40 := by unfold Clk.beginE; rw [if_neg hb, if_pos hf]
      have e3 : c.beginAt a = c := by unfold Clk.beginAt; rw [if_neg hb, if_pos hf]
      rw [e1, e2, e3]
      have hf' : stepsR c.low c.next ≥ 60 := by simpa [Clk.full] using hf
      refine tri_intro (args := [_, _]) Try.func51 rfl Try.ntmps51 rfl (rs := _) rfl rfl fun E R => ?_
      simp only [fr, List.cons_append, List.nil_append]
      rcases hb' with ha | ⟨hk, hs⟩
      · (refine sr_ ?_; (refine ac_ ?_); (refine ac_ ?_); refine sn_ ?_; (apply sc_seq); (apply sc_block); (apply sc_seq); refine sr_ ?_; (refine mv_ ?_); (refine se_ (ex_eqp_f ev_ .const asm_) ?_); (refine asg_ ?_); refine sn_ ?_; (refine cf_ ?_); (apply sc_region); (refine mv_ ?_); (refine se_ (ex_neq_f ev_ .const om_) ?_); (refine mv_ ?_); (refine sk_ ?_); (refine sk_ ?_); (refine sk_ ?_); (refine sk_ ?_); (refine sk_ ?_); (refine su_ ?_); (refine su_ ?_); (refine su_ ?_); (refine su_ ?_); (refine su_ ?_); (refine su_ ?_); (refine su_ ?_); (refine su_ ?_); (refine sk_ ?_); (refine se_ (ex_pick_f ev_ .const) ?_); (refine asg_ ?_); refine sn_ ?_; (refine cf_ ?_); (apply sc_seq); (apply sc_quiet (id := 4); assumption; kernel_rfl); (refine qe_ (ex_move ev_) ?_); (refine qe_ (ex_nilCheck ev_) ?_); (refine qe_ (ex_fieldAddr ev_ asm_) ?_); (refine qe_ (ex_ckl ev_ asm_ mem_) ?_); (refine qe_ (ex_move ev_) ?_); (refine qe_ (ex_nilCheck ev_) ?_); (refine qe_ (ex_fieldAddr ev_ asm_) ?_); (refine qe_ (ex_ckn ev_ asm_ mem_) ?_); (apply sq_call; (exact Ev.func); (focus ((apply EvL.cons; (exact ev_)); (apply EvL.cons; (exact ev_)); exact EvL.nil)); (focus (repeat (first | exact App.nil | apply App.cons))); assumption; exact c2; (exact sel_); exact rfl); (refine qe_ (ex_geq_t ev_ .const om_) ?_); (refine qe_ (ex_assign ev_) ?_); (apply sq_nil); (apply nm_then); (refine ct_ ?_); refine sr_ ?_; (refine ac_ ?_); (refine ac_ ?_); refine sn_ ?_; (apply sc_ret); (apply rt_block); (apply rt_then); (apply ret_ok; (focus ((apply Res.tmp; (exact ev_)); (apply Res.tmp; (exact ev_)); exact Res.nil)); (exact ⟨rfl, rfl⟩); (exact sel_); (exact appb_)))
      · rw [hk] at c1
        by_cases ha : a = 0
        · (refine sr_ ?_; (refine ac_ ?_); (refine ac_ ?_); refine sn_ ?_; (apply sc_seq); (apply sc_block); (apply sc_seq); refine sr_ ?_; (refine mv_ ?_); (refine se_ (ex_eqp_f ev_ .const asm_) ?_); (refine asg_ ?_); refine sn_ ?_; (refine cf_ ?_); (apply sc_region); (refine mv_ ?_); (refine se_ (ex_neq_f ev_ .const om_) ?_); (refine mv_ ?_); (refine sk_ ?_); (refine sk_ ?_); (refine sk_ ?_); (refine sk_ ?_); (refine sk_ ?_); (refine su_ ?_); (refine su_ ?_); (refine su_ ?_); (refine su_ ?_); (refine su_ ?_); (refine su_ ?_); (refine su_ ?_); (refine su_ ?_); (refine sk_ ?_); (refine se_ (ex_pick_f ev_ .const) ?_); (refine asg_ ?_); refine sn_ ?_; (refine cf_ ?_); (apply sc_seq); (apply sc_quiet (id := 4); assumption; kernel_rfl); (refine qe_ (ex_move ev_) ?_); (refine qe_ (ex_nilCheck ev_) ?_); (refine qe_ (ex_fieldAddr ev_ asm_) ?_); (refine qe_ (ex_ckl ev_ asm_ mem_) ?_); (refine qe_ (ex_move ev_) ?_); (refine qe_ (ex_nilCheck ev_) ?_); (refine qe_ (ex_fieldAddr ev_ asm_) ?_); (refine qe_ (ex_ckn ev_ asm_ mem_) ?_); (apply sq_call; (exact Ev.func); (focus ((apply EvL.cons; (exact ev_)); (apply EvL.cons; (exact ev_)); exact EvL.nil)); (focus (repeat (first | exact App.nil | apply App.cons))); assumption; exact c2; (exact sel_); exact rfl); (refine qe_ (ex_geq_t ev_ .const om_) ?_); (refine qe_ (ex_assign ev_) ?_); (apply sq_nil); (apply nm_then); (refine ct_ ?_); refine sr_ ?_; (refine ac_ ?_); (refine ac_ ?_); refine sn_ ?_; (apply sc_ret); (apply rt_block); (apply rt_then); (apply ret_ok; (focus ((apply Res.tmp; (exact ev_)); (apply Res.tmp; (exact ev_)); exact Res.nil)); (exact ⟨rfl, rfl⟩); (exact sel_); (exact appb_)))
        · obtain ⟨ai, rfl, hai, _⟩ := on_nat (knows_on hk)
          (refine sr_ ?_; (refine ac_ ?_); (refine ac_ ?_); refine sn_ ?_; (apply sc_seq); (apply sc_block); (apply sc_seq); refine sr_ ?_; (refine mv_ ?_); (refine se_ (ex_eqp_f ev_ .const asm_) ?_); (refine asg_ ?_); refine sn_ ?_; (refine cf_ ?_); (apply sc_region); (refine mv_ ?_); (refine se_ (ex_neq_t ev_ .const om_) ?_); (refine mv_ ?_); (refine wt_ ?_); (refine mv_ ?_); (refine wt_ ?_); (refine mv_ ?_); (refine wt_ ?_); (apply so_callq; (exact Ev.func); (focus ((apply EvL.cons; (exact ev_)); (apply EvL.cons; (exact ev_)); exact EvL.nil)); (focus (repeat (first | exact App.nil | apply App.cons))); assumption; exact c1; (exact sel_); exact rfl); (refine wt_ ?_); (refine se_ (ex_not ev_) ?_); (refine wt_ ?_); (refine mv_ ?_); (refine wt_ ?_); (refine mv_ ?_); (refine wt_ ?_); (refine mv_ ?_); (refine wt_ ?_); (refine se_ (ex_nilCheck ev_) ?_); (refine wt_ ?_); (refine se_ (ex_fieldAddr ev_ asm_) ?_); (refine wt_ ?_); (refine se_ (ex_indexArr ev_ ev_ asm_ asm_ lit_ lt_) ?_); (refine wt_ ?_); (refine se_ (ex_fieldAddr ev_ asm_) ?_); (refine wt_ ?_); (refine se_ (ex_cks ev_ asm_ mem_ lt_) ?_); (refine wt_ ?_); (refine se_ (ex_neq_f ev_ .const om_) ?_); (refine wt_ ?_); (refine se_ (ex_pick_f ev_ ev_) ?_); (refine se_ (ex_pick_t ev_ ev_) ?_); (refine asg_ ?_); refine sn_ ?_; (refine cf_ ?_); (apply sc_seq); (apply sc_quiet (id := 4); assumption; kernel_rfl); (refine qe_ (ex_move ev_) ?_); (refine qe_ (ex_nilCheck ev_) ?_); (refine qe_ (ex_fieldAddr ev_ asm_) ?_); (refine qe_ (ex_ckl ev_ asm_ mem_) ?_); (refine qe_ (ex_move ev_) ?_); (refine qe_ (ex_nilCheck ev_) ?_); (refine qe_ (ex_fieldAddr ev_ asm_) ?_); (refine qe_ (ex_ckn ev_ asm_ mem_) ?_); (apply sq_call; (exact Ev.func); (focus ((apply EvL.cons; (exact ev_)); (apply EvL.cons; (exact ev_)); exact EvL.nil)); (focus (repeat (first | exact App.nil | apply App.cons))); assumption; exact c2; (exact sel_); exact rfl); (refine qe_ (ex_geq_t ev_ .const om_) ?_); (refine qe_ (ex_assign ev_) ?_); (apply sq_nil); (apply nm_then); (refine ct_ ?_); refine sr_ ?_; (refine ac_ ?_); (refine ac_ ?_); refine sn_ ?_; (apply sc_ret); (apply rt_block); (apply rt_then); (apply ret_ok; (focus ((apply Res.tmp; (exact ev_)); (apply Res.tmp; (exact ev_)); exact Res.nil)); (exact ⟨rfl, rfl⟩); (exact sel_); (exact appb_)))
    · have e1 : c.beginX a = c.next := by unfold Clk.beginX; rw [if_neg hb, if_neg hf]
      have e2 : c.beginE a = 0 := by unfold Clk.beginE; rw [if_neg hb, if_neg hf]
      have e3 : c.beginAt a = { ({ c with st := fun y => if y = c.next then 1 else c.st y, ab := fun y => if y = c.next then a else c.ab y } : Clk) with next := nextR c.next } := by unfold Clk.beginAt; rw [if_neg hb, if_neg hf]
      rw [e1, e2, e3]
      have hf' : ¬ stepsR c.low c.next ≥ 60 := by simpa [Clk.full] using hf
      obtain ⟨ni, hni, hni2, _⟩ := on_nat hc.next
      have s2 := ck_sub2 (a := a) hni hni2
      generalize hC : ({ c with st := fun y => if y = c.next then 1 else c.st y, ab := fun y => if y = c.next then a else c.ab y } : Clk) = c' at *
      refine tri_intro (args := [_, _]) Try.func51 rfl Try.ntmps51 rfl (rs := _) rfl rfl fun E R => ?_
      simp only [fr, List.cons_append, List.nil_append]
      rcases hb' with ha | ⟨hk, hs⟩
      · (refine sr_ ?_; (refine ac_ ?_); (refine ac_ ?_); refine sn_ ?_; (apply sc_seq); (apply sc_block); (apply sc_seq); refine sr_ ?_; (refine mv_ ?_); (refine se_ (ex_eqp_f ev_ .const asm_) ?_); (refine asg_ ?_); refine sn_ ?_; (refine cf_ ?_); (apply sc_region); (refine mv_ ?_); (refine se_ (ex_neq_f ev_ .const om_) ?_); (refine mv_ ?_); (refine sk_ ?_); (refine sk_ ?_); (refine sk_ ?_); (refine sk_ ?_); (refine sk_ ?_); (refine su_ ?_); (refine su_ ?_); (refine su_ ?_); (refine su_ ?_); (refine su_ ?_); (refine su_ ?_); (refine su_ ?_); (refine su_ ?_); (refine sk_ ?_); (refine se_ (ex_pick_f ev_ .const) ?_); (refine asg_ ?_); refine sn_ ?_; (refine cf_ ?_); (apply sc_seq); (apply sc_quiet (id := 4); assumption; kernel_rfl); (refine qe_ (ex_move ev_) ?_); (refine qe_ (ex_nilCheck ev_) ?_); (refine qe_ (ex_fieldAddr ev_ asm_) ?_); (refine qe_ (ex_ckl ev_ asm_ mem_) ?_); (refine qe_ (ex_move ev_) ?_); (refine qe_ (ex_nilCheck ev_) ?_); (refine qe_ (ex_fieldAddr ev_ asm_) ?_); (refine qe_ (ex_ckn ev_ asm_ mem_) ?_); (apply sq_call; (exact Ev.func); (focus ((apply EvL.cons; (exact ev_)); (apply EvL.cons; (exact ev_)); exact EvL.nil)); (focus (repeat (first | exact App.nil | apply App.cons))); assumption; exact c2; (exact sel_); exact rfl); (refine qe_ (ex_geq_f ev_ .const om_) ?_); (refine qe_ (ex_assign ev_) ?_); (apply sq_nil); (apply nm_then); (refine cf_ ?_); (apply sc_skip); (apply nm_block); (apply nm_then); refine sr_ ?_; (refine mv_ ?_); (refine se_ (ex_nilCheck ev_) ?_); (refine se_ (ex_fieldAddr ev_ asm_) ?_); (refine se_ (ex_ckn ev_ asm_ mem_) ?_); (refine asg_ ?_); refine sn_ ?_; refine sr_ ?_; (refine mv_ ?_); (refine mv_ ?_); (refine mv_ ?_); (apply so_ex; (apply ex_build; ((focus ((apply EvP.cons; (exact Ev.const)); (apply EvP.cons; (exact ev_)); exact EvP.nil))); assumption; ((focus (repeat (first | exact Bld.nil (by assumption) | (apply Bld.cons; assumption; exact rfl; exact rfl; (focus (repeat (first | exact SetSub.nil | apply SetSub.take | apply SetSub.drop))))))))); exact rfl); (refine se_ (ex_nilCheck ev_) ?_); (refine se_ (ex_fieldAddr ev_ asm_) ?_); (refine se_ (ex_indexArr ev_ ev_ asm_ asm_ lit_ lt_) ?_); (apply so_store; (exact ev_); (exact ev_); assumption; exact rfl; exact rfl; exact rfl; (focus (repeat (first | exact Turn.here | apply Turn.there | apply Turn.pre))); first | exact s2 | exact ck_sub3); refine sn_ ?_; refine sr_ ?_; (refine mv_ ?_); (refine mv_ ?_); (apply so_callq; (exact Ev.func); (focus ((apply EvL.cons; (exact ev_)); exact EvL.nil)); (focus (repeat (first | exact App.nil | apply App.cons))); assumption; exact c3; (exact sel_); exact rfl); (refine se_ (ex_nilCheck ev_) ?_); (refine se_ (ex_fieldAddr ev_ asm_) ?_); (apply so_store; (exact ev_); (exact ev_); assumption; exact rfl; exact rfl; exact rfl; (focus (repeat (first | exact Turn.here | apply Turn.there | apply Turn.pre))); first | exact s2 | exact ck_sub3); refine sn_ ?_; refine sr_ ?_; (refine mv_ ?_); (refine asg_ ?_); (refine ac_ ?_); refine sn_ ?_; (apply sc_ret); (apply ret_ok; (focus ((apply Res.tmp; (exact ev_)); (apply Res.tmp; (exact ev_)); exact Res.nil)); (exact ⟨rfl, rfl⟩); (exact sel_); (exact appb_)))
      · rw [hk] at c1
        by_cases ha : a = 0
        · (refine sr_ ?_; (refine ac_ ?_); (refine ac_ ?_); refine sn_ ?_; (apply sc_seq); (apply sc_block); (apply sc_seq); refine sr_ ?_; (refine mv_ ?_); (refine se_ (ex_eqp_f ev_ .const asm_) ?_); (refine asg_ ?_); refine sn_ ?_; (refine cf_ ?_); (apply sc_region); (refine mv_ ?_); (refine se_ (ex_neq_f ev_ .const om_) ?_); (refine mv_ ?_); (refine sk_ ?_); (refine sk_ ?_); (refine sk_ ?_); (refine sk_ ?_); (refine sk_ ?_); (refine su_ ?_); (refine su_ ?_); (refine su_ ?_); (refine su_ ?_); (refine su_ ?_); (refine su_ ?_); (refine su_ ?_); (refine su_ ?_); (refine sk_ ?_); (refine se_ (ex_pick_f ev_ .const) ?_); (refine asg_ ?_); refine sn_ ?_; (refine cf_ ?_); (apply sc_seq); (apply sc_quiet (id := 4); assumption; kernel_rfl); (refine qe_ (ex_move ev_) ?_); (refine qe_ (ex_nilCheck ev_) ?_); (refine qe_ (ex_fieldAddr ev_ asm_) ?_); (refine qe_ (ex_ckl ev_ asm_ mem_) ?_); (refine qe_ (ex_move ev_) ?_); (refine qe_ (ex_nilCheck ev_) ?_); (refine qe_ (ex_fieldAddr ev_ asm_) ?_); (refine qe_ (ex_ckn ev_ asm_ mem_) ?_); (apply sq_call; (exact Ev.func); (focus ((apply EvL.cons; (exact ev_)); (apply EvL.cons; (exact ev_)); exact EvL.nil)); (focus (repeat (first | exact App.nil | apply App.cons))); assumption; exact c2; (exact sel_); exact rfl); (refine qe_ (ex_geq_f ev_ .const om_) ?_); (refine qe_ (ex_assign ev_) ?_); (apply sq_nil); (apply nm_then); (refine cf_ ?_); (apply sc_skip); (apply nm_block); (apply nm_then); refine sr_ ?_; (refine mv_ ?_); (refine se_ (ex_nilCheck ev_) ?_); (refine se_ (ex_fieldAddr ev_ asm_) ?_); (refine se_ (ex_ckn ev_ asm_ mem_) ?_); (refine asg_ ?_); refine sn_ ?_; refine sr_ ?_; (refine mv_ ?_); (refine mv_ ?_); (refine mv_ ?_); (apply so_ex; (apply ex_build; ((focus ((apply EvP.cons; (exact Ev.const)); (apply EvP.cons; (exact ev_)); exact EvP.nil))); assumption; ((focus (repeat (first | exact Bld.nil (by assumption) | (apply Bld.cons; assumption; exact rfl; exact rfl; (focus (repeat (first | exact SetSub.nil | apply SetSub.take | apply SetSub.drop))))))))); exact rfl); (refine se_ (ex_nilCheck ev_) ?_); (refine se_ (ex_fieldAddr ev_ asm_) ?_); (refine se_ (ex_indexArr ev_ ev_ asm_ asm_ lit_ lt_) ?_); (apply so_store; (exact ev_); (exact ev_); assumption; exact rfl; exact rfl; exact rfl; (focus (repeat (first | exact Turn.here | apply Turn.there | apply Turn.pre))); first | exact s2 | exact ck_sub3); refine sn_ ?_; refine sr_ ?_; (refine mv_ ?_); (refine mv_ ?_); (apply so_callq; (exact Ev.func); (focus ((apply EvL.cons; (exact ev_)); exact EvL.nil)); (focus (repeat (first | exact App.nil | apply App.cons))); assumption; exact c3; (exact sel_); exact rfl); (refine se_ (ex_nilCheck ev_) ?_); (refine se_ (ex_fieldAddr ev_ asm_) ?_); (apply so_store; (exact ev_); (exact ev_); assumption; exact rfl; exact rfl; exact rfl; (focus (repeat (first | exact Turn.here | apply Turn.there | apply Turn.pre))); first | exact s2 | exact ck_sub3); refine sn_ ?_; refine sr_ ?_; (refine mv_ ?_); (refine asg_ ?_); (refine ac_ ?_); refine sn_ ?_; (apply sc_ret); (apply ret_ok; (focus ((apply Res.tmp; (exact ev_)); (apply Res.tmp; (exact ev_)); exact Res.nil)); (exact ⟨rfl, rfl⟩); (exact sel_); (exact appb_)))
        · obtain ⟨ai, rfl, hai, _⟩ := on_nat (knows_on hk)
          (refine sr_ ?_; (refine ac_ ?_); (refine ac_ ?_); refine sn_ ?_; (apply sc_seq); (apply sc_block); (apply sc_seq); refine sr_ ?_; (refine mv_ ?_); (refine se_ (ex_eqp_f ev_ .const asm_) ?_); (refine asg_ ?_); refine sn_ ?_; (refine cf_ ?_); (apply sc_region); (refine mv_ ?_); (refine se_ (ex_neq_t ev_ .const om_) ?_); (refine mv_ ?_); (refine wt_ ?_); (refine mv_ ?_); (refine wt_ ?_); (refine mv_ ?_); (refine wt_ ?_); (apply so_callq; (exact Ev.func); (focus ((apply EvL.cons; (exact ev_)); (apply EvL.cons; (exact ev_)); exact EvL.nil)); (focus (repeat (first | exact App.nil | apply App.cons))); assumption; exact c1; (exact sel_); exact rfl); (refine wt_ ?_); (refine se_ (ex_not ev_) ?_); (refine wt_ ?_); (refine mv_ ?_); (refine wt_ ?_); (refine mv_ ?_); (refine wt_ ?_); (refine mv_ ?_); (refine wt_ ?_); (refine se_ (ex_nilCheck ev_) ?_); (refine wt_ ?_); (refine se_ (ex_fieldAddr ev_ asm_) ?_); (refine wt_ ?_); (refine se_ (ex_indexArr ev_ ev_ asm_ asm_ lit_ lt_) ?_); (refine wt_ ?_); (refine se_ (ex_fieldAddr ev_ asm_) ?_); (refine wt_ ?_); (refine se_ (ex_cks ev_ asm_ mem_ lt_) ?_); (refine wt_ ?_); (refine se_ (ex_neq_f ev_ .const om_) ?_); (refine wt_ ?_); (refine se_ (ex_pick_f ev_ ev_) ?_); (refine se_ (ex_pick_t ev_ ev_) ?_); (refine asg_ ?_); refine sn_ ?_; (refine cf_ ?_); (apply sc_seq); (apply sc_quiet (id := 4); assumption; kernel_rfl); (refine qe_ (ex_move ev_) ?_); (refine qe_ (ex_nilCheck ev_) ?_); (refine qe_ (ex_fieldAddr ev_ asm_) ?_); (refine qe_ (ex_ckl ev_ asm_ mem_) ?_); (refine qe_ (ex_move ev_) ?_); (refine qe_ (ex_nilCheck ev_) ?_); (refine qe_ (ex_fieldAddr ev_ asm_) ?_); (refine qe_ (ex_ckn ev_ asm_ mem_) ?_); (apply sq_call; (exact Ev.func); (focus ((apply EvL.cons; (exact ev_)); (apply EvL.cons; (exact ev_)); exact EvL.nil)); (focus (repeat (first | exact App.nil | apply App.cons))); assumption; exact c2; (exact sel_); exact rfl); (refine qe_ (ex_geq_f ev_ .const om_) ?_); (refine qe_ (ex_assign ev_) ?_); (apply sq_nil); (apply nm_then); (refine cf_ ?_); (apply sc_skip); (apply nm_block); (apply nm_then); refine sr_ ?_; (refine mv_ ?_); (refine se_ (ex_nilCheck ev_) ?_); (refine se_ (ex_fieldAddr ev_ asm_) ?_); (refine se_ (ex_ckn ev_ asm_ mem_) ?_); (refine asg_ ?_); refine sn_ ?_; refine sr_ ?_; (refine mv_ ?_); (refine mv_ ?_); (refine mv_ ?_); (apply so_ex; (apply ex_build; ((focus ((apply EvP.cons; (exact Ev.const)); (apply EvP.cons; (exact ev_)); exact EvP.nil))); assumption; ((focus (repeat (first | exact Bld.nil (by assumption) | (apply Bld.cons; assumption; exact rfl; exact rfl; (focus (repeat (first | exact SetSub.nil | apply SetSub.take | apply SetSub.drop))))))))); exact rfl); (refine se_ (ex_nilCheck ev_) ?_); (refine se_ (ex_fieldAddr ev_ asm_) ?_); (refine se_ (ex_indexArr ev_ ev_ asm_ asm_ lit_ lt_) ?_); (apply so_store; (exact ev_); (exact ev_); assumption; exact rfl; exact rfl; exact rfl; (focus (repeat (first | exact Turn.here | apply Turn.there | apply Turn.pre))); first | exact s2 | exact ck_sub3); refine sn_ ?_; refine sr_ ?_; (refine mv_ ?_); (refine mv_ ?_); (apply so_callq; (exact Ev.func); (focus ((apply EvL.cons; (exact ev_)); exact EvL.nil)); (focus (repeat (first | exact App.nil | apply App.cons))); assumption; exact c3; (exact sel_); exact rfl); (refine se_ (ex_nilCheck ev_) ?_); (refine se_ (ex_fieldAddr ev_ asm_) ?_); (apply so_store; (exact ev_); (exact ev_); assumption; exact rfl; exact rfl; exact rfl; (focus (repeat (first | exact Turn.here | apply Turn.there | apply Turn.pre))); first | exact s2 | exact ck_sub3); refine sn_ ?_; refine sr_ ?_; (refine mv_ ?_); (refine asg_ ?_); (refine ac_ ?_); refine sn_ ?_; (apply sc_ret); (apply ret_ok; (focus ((apply Res.tmp; (exact ev_)); (apply Res.tmp; (exact ev_)); exact Res.nil)); (exact ⟨rfl, rfl⟩); (exact sel_); (exact appb_)))
end Go.Proofs.Ytfkpjnomfmjplaa
namespace Go.Proofs.Ytfkpjnomfmjplaa
open Go.Sym
theorem index_tri {zs : List Int} {sv : Value} {B : List Blk} (hB : SlI zs sv B) (hl : zs.length ≤ 1000000000) (x : Int) : Tri Try.prog 77 #[sv, .int .i64 x] B fun v L => (∃ i : Int, v = .int .i64 i ∧ (x ∈ zs ↔ i ≥ 0)) ∧ L = B := by
  have f_mixed := mixed; have f_by3 := by3; have f_ty3 := ty3; have f_ty36 := ty36; have f_un_36 : Und Try.prog 36 _ := ⟨Try.underlying36⟩; have f_zero3 := zero3; have f_zv3 := zv3
  refine tri_intro (args := [_, _]) Try.func77 rfl Try.ntmps77 rfl (rs := _) rfl rfl fun E R => ?_
  simp only [fr, List.cons_append, List.nil_append]
  rcases hB.cases with ⟨rfl, rfl, rfl⟩ | ⟨b5, cap5, junk5, rfl, hj5, rfl⟩
  · simp only [List.nil_append]
    (refine sr_ ?_; (refine ac_ ?_); refine sn_ ?_; (apply sc_seq); refine sr_ ?_; (refine mv_ ?_); (refine se_ (ex_len_slice ev_ asm_) ?_); (refine se_ (ex_move .const) ?_); refine sn_ ?_; (apply sc_block))
    refine sc_loop (fun k f L => At f 7 (.int .i64 0) ∧ At f 8 (.int .i64 0) ∧ Held L [] R) 0 ⟨at_, at_, held_⟩ ?_
    rintro k f L ⟨a0, a8, ⟨G, hG⟩⟩
    refine sc_perm hG ?_
    simp only [List.append_assoc, List.cons_append, List.nil_append]
    (refine sr_ ?_; (refine se_ (ex_lss_f ev_ ev_ om_) ?_); refine sn_ ?_; (apply sc_seq); (refine cf_ ?_); (apply sc_exit); (apply et_then); (apply et_then); (apply et_hit); (apply nm_then); refine sr_ ?_; (refine ac_ ?_); refine sn_ ?_; (apply sc_ret); (apply ret_ok; (focus ((apply Res.tmp; (exact ev_)); exact Res.nil)); (exact ⟨⟨_, rfl, by simp⟩, rfl⟩); (exact sel_); (exact appb_)))
  · simp only [List.cons_append, List.nil_append]
    (refine sr_ ?_; (refine ac_ ?_); refine sn_ ?_; (apply sc_seq); refine sr_ ?_; (refine mv_ ?_); (refine se_ (ex_len_slice ev_ asm_) ?_); (refine se_ (ex_move .const) ?_); refine sn_ ?_; (apply sc_block))
    refine sc_loop (fun k f L => ∃ i : Nat, k = zs.length - i ∧ i ≤ zs.length ∧ x ∉ zs.take i ∧ At f 0 (.slice (some ⟨b5, 0, none⟩) zs.length cap5) ∧ At f 1 (.int .i64 x) ∧ At f 7 (.int .i64 (zs.length : Int)) ∧ At f 8 (.int .i64 (i : Int)) ∧ Held L [(b5, .cells (zs.map (Value.int .i64) ++ junk5).toArray 3)] R) _ ⟨0, rfl, Nat.zero_le _, by simp, at_, at_, at_, at_, held_⟩ ?_
    rintro k f L ⟨i, hk, hi, hni, a0, a1, a7, a8, ⟨G, hG⟩⟩
    refine sc_perm hG ?_
    simp only [List.append_assoc, List.cons_append, List.nil_append]
    by_cases hlt : i < zs.length
    · have hlt' : (i : Int) < (zs.length : Int) := by omega
      have e1 : ((i + 1 : Nat) : Int) = (i : Int) + 1 := by omega
      have hz := zs_nth (junk := junk5) hlt
      by_cases hx : x = zs[i]
      · have hm : x ∈ zs := by rw [hx]; exact List.getElem_mem hlt
        (refine sr_ ?_; (refine se_ (ex_lss_t ev_ ev_ om_) ?_); refine sn_ ?_; (apply sc_seq); (refine ct_ ?_); (apply sc_skip); (apply nm_then); (apply sc_seq); (apply sc_block); refine sr_ ?_; (refine mv_ ?_); (refine asg_ ?_); refine sn_ ?_; refine sr_ ?_; (refine mv_ ?_); (refine mv_ ?_); (refine mv_ ?_); (refine se_ (ex_indexAddr ev_ ev_ asm_ asm_ lit_ lt_) ?_); (apply so_ex; (apply ex_load1r; (exact ev_); assumption; (exact mem_); exact hz); exact rfl); (refine se_ (ex_eql_t ev_ ev_ om_) ?_); refine sn_ ?_; (refine ct_ ?_); refine sr_ ?_; (refine mv_ ?_); (refine asg_ ?_); refine sn_ ?_; (apply sc_ret); (apply rt_block); (apply rt_then); (apply rt_then); (apply rt_block); (apply rt_then); (apply ret_ok; (focus ((apply Res.tmp; (exact ev_)); exact Res.nil)); (exact ⟨⟨_, rfl, by constructor; intro _; omega; intro _; exact hm⟩, rfl⟩); (exact sel_); (exact appb_)))
      · (refine sr_ ?_; (refine se_ (ex_lss_t ev_ ev_ om_) ?_); refine sn_ ?_; (apply sc_seq); (refine ct_ ?_); (apply sc_skip); (apply nm_then); (apply sc_seq); (apply sc_block); refine sr_ ?_; (refine mv_ ?_); (refine asg_ ?_); refine sn_ ?_; refine sr_ ?_; (refine mv_ ?_); (refine mv_ ?_); (refine mv_ ?_); (refine se_ (ex_indexAddr ev_ ev_ asm_ asm_ lit_ lt_) ?_); (apply so_ex; (apply ex_load1r; (exact ev_); assumption; (exact mem_); exact hz); exact rfl); (refine se_ (ex_eql_f ev_ ev_ om_) ?_); refine sn_ ?_; (refine cf_ ?_); (apply sc_skip); (apply nm_block); (apply nm_then); (apply sc_region); (refine se_ (ex_add ev_ .const wr_) ?_); (refine mv_ ?_); (apply so_nil); (apply nm_then))
        refine ⟨zs.length - (i + 1), by omega, i + 1, rfl, by omega, ?_, at_, at_, at_, by rw [e1]; exact at_, held_⟩
        rw [List.take_succ_eq_append_getElem hlt, List.mem_append, List.mem_singleton]
        exact fun h => h.elim hni hx
    · have hlt' : ¬ (i : Int) < (zs.length : Int) := by omega
      obtain rfl : i = zs.length := by omega
      rw [List.take_length] at hni
      (refine sr_ ?_; (refine se_ (ex_lss_f ev_ ev_ om_) ?_); refine sn_ ?_; (apply sc_seq); (refine cf_ ?_); (apply sc_exit); (apply et_then); (apply et_then); (apply et_hit); (apply nm_then); refine sr_ ?_; (refine ac_ ?_); refine sn_ ?_; (apply sc_ret); (apply ret_ok; (focus ((apply Res.tmp; (exact ev_)); exact Res.nil)); (exact ⟨⟨_, rfl, by constructor; intro h; exact absurd h hni; intro h; exact absurd h (by omega)⟩, rfl⟩); (exact sel_); (exact appb_)))
theorem contains_tri {zs : List Int} {sv : Value} {B : List Blk} (hB : SlI zs sv B) (hl : zs.length ≤ 1000000000) (x : Int) : TriQ Try.prog 56 #[sv, .int .i64 x] B (.bool (decide (x ∈ zs))) := by
  have f_mixed := mixed; have f_en77 := en77
  have c1 := index_tri hB hl x
  refine tri_intro (args := [_, _]) Try.func56 rfl Try.ntmps56 rfl (rs := _) rfl rfl fun E R => ?_
  simp only [fr, List.cons_append, List.nil_append]
  (refine sr_ ?_; (refine ac_ ?_); refine sn_ ?_; refine sr_ ?_; (refine mv_ ?_); (refine mv_ ?_))
  (apply so_call; (exact Ev.func); (focus ((apply EvL.cons; (exact ev_)); (apply EvL.cons; (exact ev_)); exact EvL.nil)); (focus (repeat (first | exact App.nil | apply App.cons))); assumption; (exact c1); (exact sel_); exact rfl)
  rintro v L ⟨⟨i, rfl, hi⟩, rfl⟩
  by_cases h : x ∈ zs
  · have h0 := hi.1 h
    rw [decide_eq_true h]
    ((refine se_ (ex_geq_t ev_ .const om_) ?_); (refine asg_ ?_); refine sn_ ?_; (apply sc_ret); (apply ret_ok; (focus ((apply Res.tmp; (exact ev_)); exact Res.nil)); (exact ⟨rfl, rfl⟩); (exact sel_); (exact appb_)))
  · have h0 : ¬ i ≥ 0 := fun h' => h (hi.2 h')
    rw [decide_eq_false h]
    ((refine se_ (ex_geq_f ev_ .const om_) ?_); (refine asg_ ?_); refine sn_ ?_; (apply sc_ret); (apply ret_ok; (focus ((apply Res.tmp; (exact ev_)); exact Res.nil)); (exact ⟨rfl, rfl⟩); (exact sel_); (exact appb_)))
end Go.Proofs.Ytfkpjnomfmjplaa
namespace Go.Proofs.Ytfkpjnomfmjplaa
open Go.Sym
/-- a transaction -/
structure Tx where
  id : Int
  mode : Int
  snap : Option (Int × List Int)
  lvs : List (ByteArray × Int)
  gone : List Int
  failed : Bool
  prepared : Bool
  name : ByteArray
/-- the manager: its clock, its transactions, the last handle -/
structure Ts where
  c : Clk
  l : List Tx
  last : Int
def xidsOf (l : List (ByteArray × Int)) : List Int := (l.map (·.2)).filter fun x => decide (x ≠ 0)
def Tx.own (t : Tx) : List Int := xidsOf t.lvs
def findT (l : List Tx) (id : Int) : Option Tx := l.find? fun t => decide (t.id = id)
def setT (l : List Tx) (id : Int) (f : Tx → Tx) : List Tx := l.map fun t => if t.id = id then f t else t
def Ts.upd (T : Ts) (id : Int) (f : Tx → Tx) : Ts := { T with l := setT T.l id f }
def Ts.add (T : Ts) (t : Tx) : Ts := { T with l := T.l ++ [t], last := T.last + 1 }
/-- is it running? -/
def Ts.runs (T : Ts) (id : Int) : Option Tx := (findT T.l id).bind fun t => if t.prepared then none else some t
def rightR (m : Int) : Bool := decide (0 ≤ m) && decide (m ≤ 15) && !decide (bitsZ .and .i64 m 3 = 3)
def newTx (id m : Int) : Tx := ⟨id, m, none, [(ByteArray.empty, 0)], [], false, false, ByteArray.empty⟩
def Ts.begin (T : Ts) (m : Int) : Ts := if rightR m = true ∧ T.l.length < 16 then T.add (newTx (T.last + 1) m) else T
/-- an xid for each level that has none; the loop over the levels -/
def xidL : Clk → Int → List (ByteArray × Int) → Clk × List (ByteArray × Int)
  | c, _, [] => (c, [])
  | c, n, (s, x) :: r => if x = 0 then
      (if c.beginE n ≠ 0 then (c, (s, x) :: r) else let p := xidL (c.beginAt n) (c.beginX n) r; (p.1, (s, c.beginX n) :: p.2))
    else let p := xidL c x r; (p.1, (s, x) :: p.2)
def Ts.xid (T : Ts) (id : Int) : Ts := match T.runs id with
  | none => T
  | some t => if bitsZ .and .i64 t.mode 4 ≠ 0 then T else let p := xidL T.c 0 t.lvs; { T.upd id fun t => { t with lvs := p.2 } with c := p.1 }
def Clk.snapR (c : Clk) : Int × List Int := (c.next, c.lives)
def Ts.snap (T : Ts) (id : Int) : Ts := match findT T.l id with
  | none => T
  | some t => match t.snap with
    | some _ => T
    | none => T.upd id fun t => { t with snap := some T.c.snapR }
def Ts.turn (T : Ts) (id : Int) : Ts := match T.runs id with
  | none => T
  | some t => if bitsZ .and .i64 t.mode 3 = 0 then T.upd id fun t => { t with snap := none } else T
def Ts.save (T : Ts) (id : Int) (s : ByteArray) : Ts := match T.runs id with
  | none => T
  | some t => if t.failed = true ∨ 8 < t.lvs.length then T else T.upd id fun t => { t with lvs := t.lvs ++ [(s, 0)] }
/-- the same text -/
def sameS (a b : ByteArray) : Bool := a.toList == b.toList
/-- the last level above the first that is called s -/
def backAt (l : List (ByteArray × Int)) (s : ByteArray) : Nat → Nat
  | 0 => 0
  | k + 1 => if (l[k + 1]?.map fun p => sameS p.1 s) = some true then k + 1 else backAt l s k
/-- the first of g ends, and with it all that is below it -/
def Clk.endHd (c : Clk) (g : List Int) (e : Int) : Clk := match g with
  | [] => c
  | x :: _ => c.endAt x e
def Ts.back (T : Ts) (id : Int) (s : ByteArray) : Ts := match T.runs id with
  | none => T
  | some t => match backAt t.lvs s (t.lvs.length - 1) with
    | 0 => T
    | k + 1 => { T.upd id fun u => { u with lvs := t.lvs.take (k + 1) ++ [(s, 0)], gone := t.gone ++ xidsOf (t.lvs.drop (k + 1)), failed := false } with c := T.c.endHd (xidsOf (t.lvs.drop (k + 1))) 3 }
def Ts.fail (T : Ts) (id : Int) (b : Bool) : Ts := match T.runs id with
  | none => T
  | some _ => T.upd id fun t => { t with failed := b }
def Ts.named (T : Ts) (s : ByteArray) : Bool := T.l.any fun t => t.prepared && sameS t.name s
def Ts.preps (T : Ts) : Nat := (T.l.filter (·.prepared)).length
def Ts.may (T : Ts) (s : ByteArray) : Bool := !T.named s && decide (T.preps < 4)
def delT (l : List Tx) (id : Int) : List Tx := l.filter fun t => decide (t.id ≠ id)
def Ts.done (T : Ts) (id : Int) (committed : Bool) : Ts := match findT T.l id with
  | none => T
  | some t => if committed = true ∧ t.failed = true then T else
      { T with l := delT T.l id, c := T.c.endHd t.own (if committed then 2 else 3) }
end Go.Proofs.Ytfkpjnomfmjplaa
namespace Go.Proofs.Ytfkpjnomfmjplaa
open Go.Sym
/-- the distance from the clock's low -/
def Clk.d (c : Clk) (x : Int) : Int := stepsR c.low x
def Clk.len (c : Clk) : Int := stepsR c.low c.next
theorem d_range (c : Clk) (x : Int) : 0 ≤ c.d x ∧ c.d x < 125 := stepsR_lt _ _
structure CkOk (c : Clk) : Prop extends ClkOk c where
  far : c.len ≤ 60
  st : ∀ x, c.knows x = true → c.st x = 1 ∨ c.st x = 2 ∨ c.st x = 3 ∨ c.st x = 4
theorem knows_iff {c : Clk} {x : Int} : c.knows x = true ↔ onR x = true ∧ c.d x < c.len := by unfold Clk.knows Clk.d Clk.len; simp
theorem d_next {c : Clk} (h : ClkOk c) (hf : c.len < 124) : stepsR c.low (nextR c.next) = c.len + 1 := by
  have h1 := h.low; have h2 := h.next
  unfold Clk.len at *
  rw [nextR_of h2]
  rw [onR_iff] at h1 h2
  unfold stepsR at *; omega
theorem d_inj {c : Clk} (h : ClkOk c) {x y : Int} (hx : onR x = true) (hy : onR y = true) (e : c.d x = c.d y) : x = y := by
  have := h.low
  rw [onR_iff] at *
  unfold Clk.d stepsR at e; omega
/-! ### the clock's functions keep CkOk -/
theorem ckOk_begin {c : Clk} (h : CkOk c) (a : Int) : CkOk (c.beginAt a) := by
  unfold Clk.beginAt
  split
  · exact h
  · split
    · exact h
    · rename_i hf
      have hf' : c.len < 60 := by simpa [Clk.full, Clk.len] using hf
      have hn := d_next h.toClkOk (by omega)
      refine ⟨⟨h.low, onR_next _⟩, ?_, fun x hx => ?_⟩
      · show stepsR c.low (nextR c.next) ≤ 60; omega
      · rw [knows_iff] at hx
        obtain ⟨h1, h2⟩ := hx
        show (if x = c.next then 1 else c.st x) = 1 ∨ _
        by_cases hx : x = c.next
        · simp [hx]
        · have h3 : c.d x < stepsR c.low (nextR c.next) := h2
          have h4 : c.d x ≠ c.len := fun e => hx (d_inj h.toClkOk h1 h.next e)
          have := h.st x (knows_iff.2 ⟨h1, by omega⟩)
          simpa [hx] using this
theorem endFold_same (s : Int) : ∀ (l : List Int) (c : Clk), (l.foldl (Clk.endStep s) c).low = c.low ∧ (l.foldl (Clk.endStep s) c).next = c.next ∧ (l.foldl (Clk.endStep s) c).ab = c.ab
  | [], _ => ⟨rfl, rfl, rfl⟩
  | y :: l, c => by
    rw [List.foldl_cons]
    have h := endFold_same s l (Clk.endStep s c y)
    have h1 : (Clk.endStep s c y).low = c.low ∧ (Clk.endStep s c y).next = c.next ∧ (Clk.endStep s c y).ab = c.ab := by
      unfold Clk.endStep; split <;> exact ⟨rfl, rfl, rfl⟩
    exact ⟨h.1.trans h1.1, h.2.1.trans h1.2.1, h.2.2.trans h1.2.2⟩
theorem endAt_same (c : Clk) (x s : Int) : (c.endAt x s).low = c.low ∧ (c.endAt x s).next = c.next ∧ (c.endAt x s).ab = c.ab := by
  unfold Clk.endAt; split
  · exact endFold_same s _ c
  · exact ⟨rfl, rfl, rfl⟩
theorem endStep_st {s : Int} (c : Clk) (y z : Int) : (Clk.endStep s c y).st z = if z = y ∧ c.live z = true then s else c.st z := by
  unfold Clk.endStep
  split
  · rename_i h
    show (if z = y then s else c.st z) = _
    by_cases hz : z = y
    · subst hz; simp [h]
    · simp [hz]
  · rename_i h
    rw [if_neg]
    rintro ⟨rfl, h2⟩; exact h h2
theorem live_st {c c' : Clk} {z : Int} (h : c'.st z = c.st z) : c'.live z = c.live z := by unfold Clk.live; rw [h]
/-- what End leaves -/
theorem endFold_st {s : Int} : ∀ (l : List Int) (c : Clk) (z : Int), (l.foldl (Clk.endStep s) c).st z = if z ∈ l ∧ c.live z = true then s else c.st z
  | [], c, z => by simp
  | y :: l, c, z => by
    rw [List.foldl_cons, endFold_st l]
    have h1 := endStep_st (s := s) c y z
    by_cases hz : z = y ∧ c.live z = true
    · rw [if_pos hz] at h1
      rw [h1, if_pos (show z ∈ y :: l ∧ c.live z = true from ⟨by rw [hz.1]; exact List.mem_cons_self .., hz.2⟩)]
      split <;> rfl
    · rw [if_neg hz] at h1
      rw [h1, live_st h1]
      by_cases hl : z ∈ l ∧ c.live z = true
      · rw [if_pos hl, if_pos ⟨List.mem_cons_of_mem _ hl.1, hl.2⟩]
      · rw [if_neg hl, if_neg]
        rintro ⟨h2, h3⟩
        rcases List.mem_cons.1 h2 with h2 | h2
        · exact hz ⟨h2, h3⟩
        · exact hl ⟨h2, h3⟩
theorem endAt_st (c : Clk) (x s z : Int) : (c.endAt x s).st z = if c.ends x s = true ∧ (z ∈ c.below x ∨ z = x) ∧ c.live z = true then s else c.st z := by
  unfold Clk.endAt
  by_cases h : c.ends x s = true
  · rw [if_pos h, endFold_st]; simp [h]
  · rw [if_neg h, if_neg fun h' => h h'.1]
theorem ends_s {c : Clk} {x s : Int} (h : c.ends x s = true) : s = 2 ∨ s = 3 ∨ s = 4 := by
  unfold Clk.ends at h
  simp only [Bool.and_eq_true, decide_eq_true_eq] at h
  omega
theorem knows_same {c c' : Clk} (h1 : c'.low = c.low) (h2 : c'.next = c.next) (x : Int) : c'.knows x = c.knows x := by unfold Clk.knows; rw [h1, h2]
theorem ckOk_end {c : Clk} (h : CkOk c) (x s : Int) : CkOk (c.endAt x s) := by
  obtain ⟨h1, h2, h3⟩ := endAt_same c x s
  refine ⟨⟨by rw [h1]; exact h.low, by rw [h2]; exact h.next⟩, ?_, fun z hz => ?_⟩
  · unfold Clk.len; rw [h1, h2]; exact h.far
  · rw [knows_same h1 h2] at hz
    rw [endAt_st]
    split
    · rename_i hh
      have := ends_s hh.1
      omega
    · exact h.st z hz
theorem walkR_get : ∀ (k : Nat) (a : Int) (i : Nat), onR a = true → i < k → ∃ x, (walkR a k)[i]? = some x ∧ onR x = true ∧ x = 3 + (a - 3 + i) % 125
  | k + 1, a, 0, ha, _ => by
    rw [onR_iff] at ha
    exact ⟨a, rfl, onR_iff.2 ha, by omega⟩
  | k + 1, a, i + 1, ha, hi => by
    obtain ⟨x, h1, h2, h3⟩ := walkR_get k (nextR a) i (onR_next a) (by omega)
    refine ⟨x, h1, h2, ?_⟩
    rw [h3, nextR_of ha]
    omega
theorem all_get {c : Clk} (h : ClkOk c) {i : Nat} {x : Int} (hx : c.all[i]? = some x) : onR x = true ∧ c.d x = i ∧ (i : Int) < c.len := by
  have hl : i < c.all.length := (List.getElem?_eq_some_iff.1 hx).1
  unfold Clk.all at hx hl
  rw [walkR_len] at hl
  obtain ⟨y, h1, h2, h3⟩ := walkR_get _ c.low i h.low hl
  rw [hx] at h1
  injection h1 with h1
  subst h1
  have h0 := h.low
  have hr := stepsR_lt c.low c.next
  rw [onR_iff] at h0
  refine ⟨h2, ?_, by unfold Clk.len; omega⟩
  unfold Clk.d stepsR
  omega
theorem all_len' (c : Clk) : (c.all.length : Int) = c.len := by
  unfold Clk.all Clk.len
  rw [walkR_len]
  have hr := stepsR_lt c.low c.next
  omega
theorem mem_all {c : Clk} (h : ClkOk c) {x : Int} : x ∈ c.all ↔ c.knows x = true := by
  rw [knows_iff]
  constructor
  · intro hx
    obtain ⟨i, hi⟩ := List.getElem?_of_mem hx
    obtain ⟨h1, h2, h3⟩ := all_get h hi
    exact ⟨h1, by omega⟩
  · rintro ⟨h1, h2⟩
    have h3 := d_range c x
    have h4 := all_len' c
    have h5 : (c.d x).toNat < c.all.length := by omega
    have h6 : c.all[(c.d x).toNat]? = some c.all[(c.d x).toNat] := List.getElem?_eq_getElem h5
    obtain ⟨h7, h8, _⟩ := all_get h h6
    have : x = c.all[(c.d x).toNat] := d_inj h h1 h7 (by omega)
    rw [this]; exact List.getElem_mem h5
theorem all_sorted {c : Clk} (h : ClkOk c) : c.all.Pairwise fun a b => c.d a < c.d b := by
  rw [List.pairwise_iff_getElem]
  intro i j hi hj hij
  have h1 := (all_get h (List.getElem?_eq_getElem hi)).2.1
  have h2 := (all_get h (List.getElem?_eq_getElem hj)).2.1
  omega
/-! ### the invariant -/
/-! ### all that is done keeps the invariant -/
theorem mem_setT {l : List Tx} {id : Int} {f : Tx → Tx} {t : Tx} (h : t ∈ setT l id f) : t ∈ l ∨ ∃ u ∈ l, u.id = id ∧ t = f u := by
  unfold setT at h
  obtain ⟨u, hu, rfl⟩ := List.mem_map.1 h
  split
  · rename_i he; exact .inr ⟨u, hu, he, rfl⟩
  · exact .inl hu
end Go.Proofs.Ytfkpjnomfmjplaa
