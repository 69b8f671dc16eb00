/- RcF: numbers: the natural numbers of the interpreter, and the model's. -/
import Derived.Test.YtomgkmoecbnddaaRcE
import Derived.Laws.Strings
set_option linter.unusedVariables false
set_option linter.unusedSimpArgs false
set_option linter.unnecessarySimpa false
namespace Go.Rc
open Go Go.Sym

theorem wrap_val (q : IntKind) (z : Int) : q.wrap z = if (khf q : Int) ≤ z % (kmod q : Int) then z % (kmod q : Int) - kmod q else z % (kmod q : Int) := by
  have h := Int.emod_lt_of_pos z (show (0 : Int) < (kmod q : Int) by cases q <;> decide)
  cases q <;> simp [IntKind.wrap, IntKind.bits, IntKind.signed, khf, kmod] at h ⊢ <;> omega
theorem kmod_pos (q : IntKind) : 0 < kmod q := by cases q <;> decide
theorem khf_le (q : IntKind) : khf q ≤ kmod q := by cases q <;> decide
theorem khf_pos (q : IntKind) : 0 < khf q := by cases q <;> decide
theorem wrap_cong {q : IntKind} {x y : Int} (h : x % (kmod q : Int) = y % (kmod q : Int)) : q.wrap x = q.wrap y := by rw [wrap_val, wrap_val, h]
theorem nat_mod {q : IntKind} {a : Nat} (h : a < kmod q) : (a : Int) % (kmod q : Int) = a := Int.emod_eq_of_lt (by omega) (by omega)
theorem wrap_nat {q : IntKind} {a : Nat} (h : a < kmod q) : q.wrap a = if khf q ≤ a then (a : Int) - kmod q else a := by
  rw [wrap_val, nat_mod h]
  by_cases h1 : khf q ≤ a
  · rw [if_pos h1, if_pos (by omega)]
  · rw [if_neg h1, if_neg (by omega)]
theorem wrap_small {q : IntKind} {a : Nat} (h : a < khf q) : q.wrap a = a := by rw [wrap_nat (Nat.lt_of_lt_of_le h (khf_le q)), if_neg (by omega)]
theorem wrap_big {q : IntKind} {a : Nat} (h : a < kmod q) (h' : khf q ≤ a) : q.wrap a = (a : Int) - kmod q := by rw [wrap_nat h, if_pos h']
theorem wrap_mod {q : IntKind} {a : Nat} (h : a < kmod q) : q.wrap a % (kmod q : Int) = a := by
  rw [wrap_nat h]
  split
  · rw [Int.sub_emod_right, nat_mod h]
  · exact nat_mod h
theorem wrap_inj {q : IntKind} {a b : Nat} (ha : a < kmod q) (hb : b < kmod q) (h : q.wrap a = q.wrap b) : a = b := by
  have h1 := wrap_mod ha
  have h2 := wrap_mod hb
  rw [h] at h1
  omega
theorem wrap_wrap {q : IntKind} {a : Nat} (h : a < kmod q) : q.wrap (q.wrap a) = q.wrap a := wrap_cong (by rw [wrap_mod h, nat_mod h])
theorem wrap_eq_nat {q : IntKind} {z : Int} {c : Nat} (h : z % (kmod q : Int) = (c : Int) % (kmod q : Int)) : q.wrap z = q.wrap c := wrap_cong h
theorem modCast (a m : Nat) : ((a % m : Nat) : Int) % (m : Int) = (a : Int) % (m : Int) := by simp
theorem wrap_add {q : IntKind} {a b : Nat} (ha : a < kmod q) (hb : b < kmod q) : q.wrap (q.wrap a + q.wrap b) = q.wrap (((a + b) % kmod q : Nat) : Int) := by
  refine wrap_cong ?_
  rw [modCast, Int.add_emod, wrap_mod ha, wrap_mod hb]
  push_cast; rfl
theorem wrap_sub {q : IntKind} {a b : Nat} (ha : a < kmod q) (hb : b < kmod q) : q.wrap (q.wrap a - q.wrap b) = q.wrap (((a + (kmod q - b)) % kmod q : Nat) : Int) := by
  refine wrap_cong ?_
  rw [modCast, Int.sub_emod, wrap_mod ha, wrap_mod hb]
  have : ((a + (kmod q - b) : Nat) : Int) = (a : Int) - b + kmod q := by omega
  rw [this, Int.add_emod_right]
theorem wrap_mul {q : IntKind} {a b : Nat} (ha : a < kmod q) (hb : b < kmod q) : q.wrap (q.wrap a * q.wrap b) = q.wrap (((a * b) % kmod q : Nat) : Int) := by
  refine wrap_cong ?_
  rw [modCast, Int.mul_emod, wrap_mod ha, wrap_mod hb]
  push_cast; rfl
theorem neg_nat {m a : Nat} (h : a ≤ m) : (a : Int) - m = -((m - a : Nat) : Int) := by omega
theorem wrap_neg {q : IntKind} {r : Nat} (h : r ≤ kmod q) : q.wrap (-(r : Int)) = q.wrap (((kmod q - r) % kmod q : Nat) : Int) := by
  refine wrap_cong ?_
  rw [modCast]
  have : ((kmod q - r : Nat) : Int) = -(r : Int) + kmod q := by omega
  rw [this, Int.add_emod_right]
theorem wrap_quo1 {q : IntKind} {a b : Nat} (ha : a < khf q) (hb : b < khf q) : q.wrap ((q.wrap a).tdiv (q.wrap b)) = q.wrap ((a / b : Nat) : Int) := by
  rw [wrap_small ha, wrap_small hb]; rfl
theorem wrap_quo2 {q : IntKind} {a b : Nat} (ha : a < kmod q) (ha' : khf q ≤ a) (hb : b < khf q) : q.wrap ((q.wrap a).tdiv (q.wrap b)) = q.wrap (((kmod q - (kmod q - a) / b) % kmod q : Nat) : Int) := by
  rw [wrap_big ha ha', wrap_small hb, neg_nat (m := kmod q) (a := a) (by omega), Int.neg_tdiv]
  exact wrap_neg (Nat.le_trans (Nat.div_le_self _ _) (Nat.sub_le _ _))
theorem rem1 {q : IntKind} {a b : Nat} (ha : a < khf q) (hb : b < khf q) : (q.wrap a).tmod (q.wrap b) = q.wrap ((a % b : Nat) : Int) := by
  rw [wrap_small ha, wrap_small hb, wrap_small (Nat.lt_of_le_of_lt (Nat.mod_le _ _) ha)]; rfl
theorem rem2 {q : IntKind} {a b : Nat} (ha : a < kmod q) (ha' : khf q ≤ a) (hb : b < khf q) (h0 : b ≠ 0) : (q.wrap a).tmod (q.wrap b) = q.wrap (((kmod q - (kmod q - a) % b) % kmod q : Nat) : Int) := by
  have hlt : (kmod q - a) % b < b := Nat.mod_lt _ (by omega)
  rw [wrap_big ha ha', wrap_small hb, neg_nat (m := kmod q) (a := a) (by omega), Int.neg_tmod]
  have e : ((kmod q - a : Nat) : Int).tmod (b : Int) = (((kmod q - a) % b : Nat) : Int) := rfl
  rw [e, ← wrap_neg (q := q) (r := (kmod q - a) % b) (by have := khf_le q; omega)]
  have h2 : khf q + khf q ≤ kmod q ∨ khf q = kmod q := by cases q <;> decide
  have h3 : khf q ≠ kmod q := by omega
  rw [wrap_val]
  generalize (kmod q - a) % b = r at *
  by_cases hr : r = 0
  · subst hr; simp; have := khf_pos q; omega
  · have : (-(r : Int)) % (kmod q : Int) = (kmod q : Int) - r := by
      have h5 : ((kmod q : Int) - r) % (kmod q : Int) = (kmod q : Int) - r := Int.emod_eq_of_lt (by omega) (by omega)
      have h6 : (-(r : Int) + (kmod q : Int)) % (kmod q : Int) = (-(r : Int)) % (kmod q : Int) := Int.add_emod_right _ _
      rw [← h6, show -(r : Int) + (kmod q : Int) = (kmod q : Int) - r by omega, h5]
    rw [this, if_pos (show (khf q : Int) ≤ (kmod q : Int) - (r : Int) by omega)]; omega
theorem lt_pow (q : IntKind) : kmod q = 2 ^ q.bits := by cases q <;> rfl
theorem bv_toNat {q : IntKind} {a : Nat} (h : a < kmod q) : (BitVec.ofInt q.bits (q.wrap a)).toNat = a := by
  have h1 := wrap_mod h
  rw [lt_pow q] at h1
  rw [BitVec.toNat_ofInt]
  have : ((2 ^ q.bits : Nat) : Int) = (2 : Int) ^ q.bits := by push_cast; rfl
  rw [h1]; rfl
theorem wrap_shl {q : IntKind} {a n : Nat} (ha : a < kmod q) : q.wrap (q.wrap a * 2 ^ n) = q.wrap (((a * 2 ^ n) % kmod q : Nat) : Int) := by
  refine wrap_cong ?_
  rw [modCast, Int.mul_emod, wrap_mod ha]
  push_cast
  conv => rhs; rw [Int.mul_emod, nat_mod ha]
theorem shr_val {q : IntKind} {a n : Nat} (ha : a < khf q) : (q.wrap a).fdiv (2 ^ n) = q.wrap ((a / 2 ^ n : Nat) : Int) := by
  rw [wrap_small ha, wrap_small (Nat.lt_of_le_of_lt (Nat.div_le_self _ _) ha)]
  have : ((2 : Int) ^ n) = ((2 ^ n : Nat) : Int) := by push_cast; rfl
  rw [this, Int.fdiv_eq_ediv_of_nonneg _ (Int.natCast_nonneg _)]
  simp
/-- ahead of a comparison -/
theorem cmp_key {q : IntKind} {a : Nat} (h : a < kmod q) : (((a + ksg q) % kmod q : Nat) : Int) = q.wrap a + ksg q := by
  rw [wrap_nat h]
  by_cases hc : khf q ≤ a
  · rw [if_pos hc]
    cases q <;> simp only [ksg, kmod, khf] at h hc ⊢ <;> omega
  · rw [if_neg hc]
    cases q <;> simp only [ksg, kmod, khf] at h hc ⊢ <;> omega
theorem lt_iff {q : IntKind} {a b : Nat} (ha : a < kmod q) (hb : b < kmod q) : (a + ksg q) % kmod q < (b + ksg q) % kmod q ↔ q.wrap a < q.wrap b := by
  have h1 := cmp_key ha
  have h2 := cmp_key hb
  omega
theorem le_iff {q : IntKind} {a b : Nat} (ha : a < kmod q) (hb : b < kmod q) : (a + ksg q) % kmod q ≤ (b + ksg q) % kmod q ↔ q.wrap a ≤ q.wrap b := by
  have h1 := cmp_key ha
  have h2 := cmp_key hb
  omega
theorem onNat_val {q : IntKind} {a b : Nat} (hb : b = kc q) (h3 : 3 ≤ b) (ha : a < 9223372036854775808) (hm : a < kmod q) : q.wrap a = a := by
  refine wrap_small ?_
  cases q <;> simp only [kc] at hb <;> first | omega | exact ha | exact hm
/-! strings -/
theorem strNum_app (a b : List UInt8) : strNum (a ++ b) = strNum a + strNum b * 256 ^ a.length := by
  induction a with
  | nil => simp [strNum]
  | cons x a ih =>
    simp only [List.cons_append, strNum, ih, List.length_cons, Nat.pow_succ]
    have : strNum b * (256 ^ a.length * 256) = 256 * (strNum b * 256 ^ a.length) := by
      rw [← Nat.mul_assoc, Nat.mul_comm]
    omega
theorem strNum_lt (a : List UInt8) : strNum a < 256 ^ a.length := by
  induction a with
  | nil => simp [strNum]
  | cons x a ih =>
    have := x.toNat_lt
    simp only [strNum, List.length_cons, Nat.pow_succ]
    omega
theorem strNum_inj : ∀ {a b : List UInt8}, a.length = b.length → strNum a = strNum b → a = b
  | [], [], _, _ => rfl
  | [], _ :: _, h, _ => by cases h
  | _ :: _, [], h, _ => by cases h
  | x :: a, y :: b, h, e => by
    have h1 := x.toNat_lt
    have h2 := y.toNat_lt
    simp only [strNum] at e
    have h3 : x = y := UInt8.toNat_inj.1 (by omega)
    have h4 := strNum_inj (a := a) (b := b) (by simpa using h) (by omega)
    rw [h3, h4]
theorem strNum_drop (n : Nat) : ∀ a : List UInt8, strNum (a.drop n) = strNum a / 256 ^ n := by
  induction n with
  | zero => intro a; simp
  | succ n ih =>
    intro a
    cases a with
    | nil => simp [strNum]
    | cons x a =>
      have := x.toNat_lt
      rw [List.drop_succ_cons, ih, Nat.pow_succ, Nat.mul_comm, ← Nat.div_div_eq_div_mul]
      congr 1
      simp only [strNum]; omega
theorem strNum_take (n : Nat) : ∀ a : List UInt8, strNum (a.take n) = strNum a % 256 ^ n := by
  induction n with
  | zero => intro a; simp [strNum, Nat.mod_one]
  | succ n ih =>
    intro a
    cases a with
    | nil => simp [strNum]
    | cons x a =>
      have := x.toNat_lt
      rw [List.take_succ_cons]
      have e1 : strNum (x :: a) % 256 = x.toNat := by simp only [strNum]; omega
      have e2 : strNum (x :: a) / 256 = strNum a := by simp only [strNum]; omega
      rw [Nat.pow_succ, Nat.mul_comm (256 ^ n) 256, Nat.mod_mul, e1, e2, ← ih]
      rfl
theorem strNum_get (a : List UInt8) (i : Nat) (h : i < a.length) : (a[i]).toNat = strNum a / 256 ^ i % 256 := by
  have h1 := strNum_drop i a
  rw [List.drop_eq_getElem_cons h] at h1
  have := (a[i]).toNat_lt
  simp only [strNum] at h1
  omega
theorem sLt_t : ∀ {a b : List UInt8} {t f : Bool}, sLt a.length (strNum a) (strNum b) b.length t f = true → (Op.bytesLess a b = true ∧ t = true) ∨ (Op.bytesLess a b = false ∧ f = true)
  | [], [], t, f, h => .inr ⟨rfl, h⟩
  | [], y :: b, t, f, h => .inl ⟨rfl, h⟩
  | x :: a, [], t, f, h => .inr ⟨rfl, h⟩
  | x :: a, y :: b, t, f, h => by
    have h1 := x.toNat_lt
    have h2 := y.toNat_lt
    have hx : Nat.mod (strNum (x :: a)) 256 = x.toNat := by show strNum (x :: a) % 256 = _; simp only [strNum]; omega
    have hy : Nat.mod (strNum (y :: b)) 256 = y.toNat := by show strNum (y :: b) % 256 = _; simp only [strNum]; omega
    have hx2 : Nat.div (strNum (x :: a)) 256 = strNum a := by show strNum (x :: a) / 256 = _; simp only [strNum]; omega
    have hy2 : Nat.div (strNum (y :: b)) 256 = strNum b := by show strNum (y :: b) / 256 = _; simp only [strNum]; omega
    have h : bi (Nat.blt (Nat.mod (strNum (x :: a)) 256) (Nat.mod (strNum (y :: b)) 256)) t (bi (Nat.beq (Nat.mod (strNum (x :: a)) 256) (Nat.mod (strNum (y :: b)) 256)) (fN (Nat.div (strNum (x :: a)) 256) fun a' => fN (Nat.div (strNum (y :: b)) 256) fun b' => sLt a.length a' b' b.length t f) f) = true := h
    rw [hx, hy, fN_eq, fN_eq, hx2, hy2] at h
    simp only [Op.bytesLess]
    rcases bi_t h with ⟨h3, h4⟩ | ⟨h3, h4⟩
    · exact .inl ⟨by simp [UInt8.lt_iff_toNat_lt, blt_t h3], h4⟩
    · have h3' := blt_f h3
      rcases bi_t h4 with ⟨h5, h6⟩ | ⟨h5, h6⟩
      · have h5' : x = y := UInt8.toNat_inj.1 (beq_t h5)
        subst h5'
        have hn : (decide (x < x)) = false := by simp
        rcases sLt_t (a := a) (b := b) h6 with ⟨h7, h8⟩ | ⟨h7, h8⟩
        · exact .inl ⟨by simp [h7], h8⟩
        · exact .inr ⟨by simp [h7], h8⟩
      · have h5' : x ≠ y := fun e => beq_f h5 (by rw [e])
        exact .inr ⟨by simp [UInt8.lt_iff_toNat_lt, h5']; omega, h6⟩
end Go.Rc
