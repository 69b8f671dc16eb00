/- RcK: quiet operations: strings, pointers. -/
import Derived.Test.YtomgkmoecbnddaaRcJ
set_option linter.unusedVariables false
set_option linter.unusedSimpArgs false
set_option linter.unnecessarySimpa false
namespace Go.Rc
open Go Go.Sym
section
variable {P : Program} {n : Nat} {x y c : Operand} {g gx gy gc : G} {t yt : TypeId}
theorem str2_ok {o : BinOp} {f : Nat → Nat → Nat → Nat → (V → Bool) → Bool} (hx : GOk n x gx) (hy : GOk n y gy)
    (hf : ∀ (s u : ByteArray) k, f (strNum s.data.toList) s.size (strNum u.data.toList) u.size k = true → ∃ v z, k v = true ∧ (∀ σ, Rel σ v z) ∧ ∀ w : World, (binOp o t (.string s) (.string u)).run P w = .ok z w) : QOk P n (.binOp o t x y yt) (str2 gx gy f) noRn := ⟨fun cf rb fr h k E R σ a w e hfr _ => by
  obtain ⟨vx, x1, x2⟩ := hx.ex
  obtain ⟨vy, y1, y2⟩ := hy.ex
  have e1 := x1 _ _ e
  have hr := x2 σ fr a hfr
  obtain ⟨tg, na, ln, _, _, _, _, hv, e2⟩ := onC_t e1
  obtain ⟨htg, e3⟩ := bi_f e2
  have htg := beq_t htg
  rw [hv, htg] at hr
  obtain ⟨s, hxv, h1, h2⟩ := hr.c6
  have e4 := y1 _ _ e3
  have hr2 := y2 σ fr a hfr
  obtain ⟨tg2, nb, lm, _, _, _, _, hv2, e5⟩ := onC_t e4
  obtain ⟨htg2, e6⟩ := bi_f e5
  have htg2 := beq_t htg2
  rw [hv2, htg2] at hr2
  obtain ⟨u, hyv, h3, h4⟩ := hr2.c6
  rw [h1, h2, h3, h4] at e6
  obtain ⟨v, z, hk, hz, hrun⟩ := hf s u _ e6
  refine ⟨v, z, hk, hz σ, fun w' op ho _ => ?_⟩
  have hg : (eqGuard o t x y (.string s) (.string u)).run P w' = .ok () w' := by cases o <;> rfl
  simp only [execOp, ho, hxv, hyv, Sem.run_bind, hg, Result.andThen_ok, hrun]
  rfl⟩
theorem bytes_size (s : ByteArray) : s.data.toList.length = s.size := by simp
theorem strEq_iff (s u : ByteArray) : (strNum s.data.toList = strNum u.data.toList ∧ s.size = u.size) ↔ s.data.toList = u.data.toList :=
  ⟨fun ⟨h1, h2⟩ => strNum_inj (by rw [bytes_size, bytes_size, h2]) h1, fun h => ⟨by rw [h], by rw [← bytes_size, ← bytes_size, h]⟩⟩
theorem sAdd_ok (hx : GOk n x gx) (hy : GOk n y gy) : QOk P n (.binOp .add t x y yt) (str2 gx gy sAdd) noRn := str2_ok hx hy fun s u k e => by
  obtain ⟨h1, e⟩ := bi_f e
  rw [fN_eq, fN_eq] at e
  have h1 : s.size + u.size < 9223372036854775808 := blt_t h1
  have hd : (s ++ u).data.toList = s.data.toList ++ u.data.toList := by simp
  refine ⟨_, .string (s ++ u), e, fun σ => .str ?_ ?_, fun w => ?_⟩
  · rw [hd, strNum_app, bytes_size]; rfl
  · simp [ByteArray.size_append]
  · have : ¬ (((s.size + u.size : Nat) : Int) > IntKind.i64.max) := by
      have : IntKind.i64.max = 9223372036854775807 := by decide
      rw [this]; omega
    simp only [binOp, Op.stringOp]
    rw [if_neg this]; rfl
theorem sEq_ok (hx : GOk n x gx) (hy : GOk n y gy) : QOk P n (.binOp .eql t x y yt) (str2 gx gy sEql) noRn := str2_ok hx hy fun s u k e => by
  refine ⟨_, .bool (s.toList == u.toList), kb_t (p := Nat.beq (strNum s.data.toList) (strNum u.data.toList) && Nat.beq s.size u.size) (k := k) ?_ ?_, fun σ => rel_b σ _, fun w => rfl⟩
  · rcases bi_t e with ⟨h1, e⟩ | ⟨h1, e⟩
    · rw [h1]; exact e
    · rw [h1]; exact e
  · rw [beq_dec, beq_dec, ByteArray.toList_eq, ByteArray.toList_eq, Bool.eq_iff_iff]
    simp only [Bool.and_eq_true, decide_eq_true_eq, beq_iff_eq]
    exact strEq_iff s u
theorem sNe_ok (hx : GOk n x gx) (hy : GOk n y gy) : QOk P n (.binOp .neq t x y yt) (str2 gx gy sNeq) noRn := str2_ok hx hy fun s u k e => by
  refine ⟨_, .bool (!(s.toList == u.toList)), kb_t (p := !(Nat.beq (strNum s.data.toList) (strNum u.data.toList) && Nat.beq s.size u.size)) (k := k) ?_ ?_, fun σ => rel_b σ _, fun w => rfl⟩
  · rcases bi_t e with ⟨h1, e⟩ | ⟨h1, e⟩
    · rw [h1]; rcases bi_t e with ⟨h2, e⟩ | ⟨h2, e⟩ <;> rw [h2] <;> exact e
    · rw [h1]; exact e
  · rw [beq_dec, beq_dec, ByteArray.toList_eq, ByteArray.toList_eq]
    congr 1
    rw [Bool.eq_iff_iff]
    simp only [Bool.and_eq_true, decide_eq_true_eq, beq_iff_eq]
    exact strEq_iff s u
theorem sLss_ok (hx : GOk n x gx) (hy : GOk n y gy) : QOk P n (.binOp .lss t x y yt) (str2 gx gy sLss) noRn := str2_ok hx hy fun s u k e => by
  unfold sLss at e
  rw [← bytes_size, ← bytes_size] at e
  rcases sLt_t e with ⟨h1, e⟩ | ⟨h1, e⟩
  · exact ⟨_, .bool true, e, fun σ => .tt σ, fun w => by simp [binOp, Op.stringOp, ByteArray.toList_eq, h1]⟩
  · exact ⟨_, .bool false, e, fun σ => .ff σ, fun w => by simp [binOp, Op.stringOp, ByteArray.toList_eq, h1]⟩
theorem bytesLess_total : ∀ (a b : List UInt8), Op.bytesLess b a = !(Op.bytesLess a b || a == b)
  | [], [] => rfl
  | [], y :: b => rfl
  | x :: a, [] => rfl
  | x :: a, y :: b => by
    simp only [Op.bytesLess, bytesLess_total a b]
    by_cases h1 : x < y
    · have h2 : ¬ y < x := UInt8.lt_asymm h1
      have h3 : ¬ y = x := fun e => by subst e; exact UInt8.lt_irrefl _ h1
      simp [h1, h2, h3]
    · by_cases h2 : x = y
      · subst h2; simp [h1]
      · have h3 : y < x := by
          rw [UInt8.lt_iff_toNat_lt] at h1 ⊢
          have : x.toNat ≠ y.toNat := fun e => h2 (UInt8.toNat_inj.1 e)
          omega
        simp [h1, h3, h2]
theorem sGtr_ok (hx : GOk n x gx) (hy : GOk n y gy) : QOk P n (.binOp .gtr t x y yt) (str2 gx gy sGtr) noRn := str2_ok hx hy fun s u k e => by
  unfold sGtr at e
  rw [← bytes_size, ← bytes_size] at e
  have ht := bytesLess_total s.data.toList u.data.toList
  rcases sLt_t e with ⟨h1, e⟩ | ⟨h1, e⟩
  · exact ⟨_, .bool true, e, fun σ => .tt σ, fun w => by
      rw [h1] at ht
      simp only [binOp, Op.stringOp, ByteArray.toList_eq, ← ht]; rfl⟩
  · exact ⟨_, .bool false, e, fun σ => .ff σ, fun w => by
      rw [h1] at ht
      simp only [binOp, Op.stringOp, ByteArray.toList_eq, ← ht]; rfl⟩
/-! pointers and nil -/
theorem run_frozen0 {w : World} {b o : Nat} {c : Array Value} {T : TypeId} (h : w.heap[b]? = some (.cells c T (0, 0))) : (frozen ⟨b, o, none⟩).run P w = .ok false w := by
  simp [frozen, Sem.run, World.frozen?, h]
theorem run_shape0 {w : World} {b : Nat} {c : Array Value} {T : TypeId} (h : w.heap[b]? = some (.cells c T (0, 0))) : (shape b).run P w = .ok (some (T, c.size)) w := by
  simp [shape, Sem.run, World.shape?, h]
theorem run_same {w : World} {b o o' : Nat} : (sameAddr ⟨b, o, none⟩ ⟨b, o', none⟩).run P w = .ok (decide (o = o')) w := by
  have : (⟨b, o, none⟩ == (⟨b, o', none⟩ : Addr)) = decide (o = o') := by
    rw [Bool.eq_iff_iff]; simp
  simp [sameAddr, this]
theorem run_other {w : World} {b b' o o' : Nat} {c c' : Array Value} {T T' : TypeId} (hb : b ≠ b') (h : w.heap[b]? = some (.cells c T (0, 0))) (h' : w.heap[b']? = some (.cells c' T' (0, 0))) : (sameAddr ⟨b, o, none⟩ ⟨b', o', none⟩).run P w = .ok false w := by
  have f1 : w.frozen? ⟨b, o, none⟩ = false := by simp [World.frozen?, h]
  have f2 : w.frozen? ⟨b', o', none⟩ = false := by simp [World.frozen?, h']
  have f3 : w.frozen? ⟨b, c.size, none⟩ = false := by simp [World.frozen?, h]
  have f4 : w.frozen? ⟨b', c'.size, none⟩ = false := by simp [World.frozen?, h']
  have s1 : w.shape? b = some (T, c.size) := by simp [World.shape?, h]
  have s2 : w.shape? b' = some (T', c'.size) := by simp [World.shape?, h']
  simp [sameAddr, hb, f1, f2, noView, viewAt, s1, s2, mayBeOne, stringish, f3, f4]
theorem run_eqp {w : World} {u v : Option Addr} {e : TypeId} (ht : P.underlying t = some (.pointer e)) :
    (Op.equal t (.pointer u) (.pointer v)).run P w = (match u, v with
      | none, v => Result.ok v.isNone w
      | some _, none => .ok false w
      | some a, some b => (do if (← sizeOf e) ≠ 0 then sameAddr a b else if a == b then pure true else pure ((← choose .zeroSizeEq) = 1) : Sem Bool).run P w) := by
  show (Op.equalIn (9999 + 1) _ _ _).run P w = _
  rw [Op.equalIn, Sem.run_bind, run_underlying ht]
  cases u <;> cases v <;> rfl
theorem run_eqsl {w : World} {u v : Option Addr} {l c l' c' : Nat} {e : TypeId} (ht : P.underlying t = some (.slice e)) (h : u = none ∨ v = none) : (Op.equal t (.slice u l c) (.slice v l' c')).run P w = .ok (u.isNone && v.isNone) w := by
  show (Op.equalIn (9999 + 1) _ _ _).run P w = _
  rw [Op.equalIn, Sem.run_bind, run_underlying ht]
  cases u <;> cases v <;> first | rfl | (rcases h with h | h <;> cases h)
theorem run_eqmp {w : World} {u v : Option Nat} {k e : TypeId} (ht : P.underlying t = some (.map k e)) (h : u = none ∨ v = none) : (Op.equal t (.map u) (.map v)).run P w = .ok (u.isNone && v.isNone) w := by
  show (Op.equalIn (9999 + 1) _ _ _).run P w = _
  rw [Op.equalIn, Sem.run_bind, run_underlying ht]
  cases u <;> cases v <;> first | rfl | (rcases h with h | h <;> cases h)
end
end Go.Rc
