/- SymMore: more operations, over Sym. -/
import Derived.Test.YtfkpjnomfmjplaaAny
import Derived.LoopN
set_option linter.unusedVariables false
set_option linter.unusedSimpArgs false
set_option linter.unnecessarySimpa false
namespace Go.Sym
open Go
set_option linter.unusedSectionVars false
section
variable {P : Program} {E : Env} {n : Nat} {Q : SPost} {f : Nat → Value} {L : List Blk} {ty : TypeId} {pos : String} {after : Array Edge} {d : Nat}
/-! ### comparisons with nil, and of bools -/
section eqs
variable {t e k : TypeId} {w : World} {a : Addr} {b l c l' c' : Nat}
theorem eqp_f (ht : Und P t (.pointer e)) : (Op.equal t (.pointer (some a)) (.pointer none)).run P w = .ok false w := by
  show (Op.equalIn (9999 + 1) _ _ _).run P w = _
  rw [Op.equalIn, Sem.run_bind, run_underlying ht.eq]; rfl
theorem eqp_t (ht : Und P t (.pointer e)) : (Op.equal t (.pointer none) (.pointer none)).run P w = .ok true w := by
  show (Op.equalIn (9999 + 1) _ _ _).run P w = _
  rw [Op.equalIn, Sem.run_bind, run_underlying ht.eq]; rfl
theorem eqs_f (ht : Und P t (.slice e)) : (Op.equal t (.slice (some a) l c) (.slice none l' c')).run P w = .ok false w := by
  show (Op.equalIn (9999 + 1) _ _ _).run P w = _
  rw [Op.equalIn, Sem.run_bind, run_underlying ht.eq]; rfl
theorem eqb_run {p q : Bool} (ht : Und P t .bool) : (Op.equal t (.bool p) (.bool q)).run P w = .ok (p == q) w := by
  show (Op.equalIn (9999 + 1) _ _ _).run P w = _
  rw [Op.equalIn, Sem.run_bind, run_underlying ht.eq]; rfl
end eqs
theorem run_bin_eql {x y : Operand} {t yt : TypeId} {u v : Value} {r : Bool} {w : World} (hx : Ev f x u) (hy : Ev f y v) (hg : (eqGuard .eql t x y u v).run P w = .ok () w) (hb : binOp .eql t u v = (do pure (.bool (← Op.equal t u v)))) (h : (Op.equal t u v).run P w = .ok r w) :
    (execOp (evO f) ⟨some d, .binOp .eql t x y yt, ty, pos, after, none⟩).run P w = .ok (.value (.bool r)) w := by
  simp only [execOp, hx.eq, hy.eq, Sem.run_bind, hg, Result.andThen_ok, hb, h, Sem.run_pure]
theorem run_bin_neq {x y : Operand} {t yt : TypeId} {u v : Value} {r : Bool} {w : World} (hx : Ev f x u) (hy : Ev f y v) (hg : (eqGuard .neq t x y u v).run P w = .ok () w) (hb : binOp .neq t u v = (do pure (.bool (!(← Op.equal t u v))))) (h : (Op.equal t u v).run P w = .ok r w) :
    (execOp (evO f) ⟨some d, .binOp .neq t x y yt, ty, pos, after, none⟩).run P w = .ok (.value (.bool (!r))) w := by
  simp only [execOp, hx.eq, hy.eq, Sem.run_bind, hg, Result.andThen_ok, hb, h, Sem.run_pure]
section nils
variable {x y : Operand} {t yt e k : TypeId} {fs : TypeDesc} {a : Addr} {b : Nat} {l c l' c' : Nat}
theorem ex_eqp_f (hx : Ev f x (.pointer (some a))) (hy : Ev f y (.pointer none)) (ht : Und P t (.pointer e)) : Ex P E f L ⟨some d, .binOp .eql t x y yt, ty, pos, after, none⟩ (.bool false) := .mk fun w _ => run_bin_eql hx hy rfl rfl (eqp_f ht)
theorem ex_eqp_t (hx : Ev f x (.pointer none)) (hy : Ev f y (.pointer none)) (ht : Und P t (.pointer e)) : Ex P E f L ⟨some d, .binOp .eql t x y yt, ty, pos, after, none⟩ (.bool true) := .mk fun w _ => run_bin_eql hx hy rfl rfl (eqp_t ht)
theorem ex_nep_t (hx : Ev f x (.pointer (some a))) (hy : Ev f y (.pointer none)) (ht : Und P t (.pointer e)) : Ex P E f L ⟨some d, .binOp .neq t x y yt, ty, pos, after, none⟩ (.bool true) := .mk fun w _ => run_bin_neq hx hy rfl rfl (eqp_f ht)
theorem ex_nep_f (hx : Ev f x (.pointer none)) (hy : Ev f y (.pointer none)) (ht : Und P t (.pointer e)) : Ex P E f L ⟨some d, .binOp .neq t x y yt, ty, pos, after, none⟩ (.bool false) := .mk fun w _ => run_bin_neq hx hy rfl rfl (eqp_t ht)
theorem ex_eqs_f (hx : Ev f x (.slice (some a) l c)) (hy : Ev f y (.slice none l' c')) (ht : Und P t (.slice e)) : Ex P E f L ⟨some d, .binOp .eql t x y yt, ty, pos, after, none⟩ (.bool false) := .mk fun w _ => run_bin_eql hx hy rfl rfl (eqs_f ht)
theorem ex_eqb {p q r : Bool} (hx : Ev f x (.bool p)) (hy : Ev f y (.bool q)) (ht : Und P t .bool) (hr : (p == q) = r) : Ex P E f L ⟨some d, .binOp .eql t x y yt, ty, pos, after, none⟩ (.bool r) := .mk fun w _ => by
  subst hr
  exact run_bin_eql hx hy rfl rfl (eqb_run ht)
theorem ex_neb {p q r : Bool} (hx : Ev f x (.bool p)) (hy : Ev f y (.bool q)) (ht : Und P t .bool) (hr : (p != q) = r) : Ex P E f L ⟨some d, .binOp .neq t x y yt, ty, pos, after, none⟩ (.bool r) := .mk fun w _ => by
  subst hr
  exact run_bin_neq hx hy rfl rfl (eqb_run ht)
end nils
/-! ### integers -/
section ints
variable {x y : Operand} {xt yt : TypeId} {k : IntKind} {a b c : Int}
def bitsZ (o : BinOp) (k : IntKind) (a b : Int) : Int :=
  let x := BitVec.ofInt k.bits a
  let y := BitVec.ofInt k.bits b
  match o with
  | .and => k.wrap (x &&& y).toNat
  | .or => k.wrap (x ||| y).toNat
  | .xor => k.wrap (x ^^^ y).toNat
  | _ => k.wrap (x &&& ~~~y).toNat
theorem ex_and (hx : Ev f x (.int k a)) (hy : Ev f y (.int k b)) (hc : bitsZ .and k a b = c) : Ex P E f L ⟨some d, .binOp .and xt x y yt, ty, pos, after, none⟩ (.int k c) := .mk fun w _ => by subst hc; simp [execOp, hx.eq, hy.eq, eqGuard, binOp, Op.intBits, bitsZ]
theorem ex_rem (hx : Ev f x (.int k a)) (hy : Ev f y (.int k b)) (h0 : b ≠ 0) (hc : a.tmod b = c) : Ex P E f L ⟨some d, .binOp .rem xt x y yt, ty, pos, after, none⟩ (.int k c) := .mk fun w _ => by subst hc; simp [execOp, hx.eq, hy.eq, eqGuard, binOp, Op.intDiv, h0]
theorem ex_max {tys : Array TypeId} (hx : Ev f x (.int k a)) (hy : Ev f y (.int k b)) (hc : (if b > a then b else a) = c) : Ex P E f L ⟨some d, .call ⟨.builtin .max, #[x, y], tys⟩, ty, pos, after, none⟩ (.int k c) := .mk fun w _ => by subst hc; simp [execOp, resolve, hx.eq, hy.eq, invoke, builtin, Builtin.max_, Builtin.max2]
theorem ex_min {tys : Array TypeId} (hx : Ev f x (.int k a)) (hy : Ev f y (.int k b)) (hc : (if b < a then b else a) = c) : Ex P E f L ⟨some d, .call ⟨.builtin .min, #[x, y], tys⟩, ty, pos, after, none⟩ (.int k c) := .mk fun w _ => by subst hc; simp [execOp, resolve, hx.eq, hy.eq, invoke, builtin, Builtin.min_, Builtin.min2]
theorem ex_convert {src dst : TypeId} {k' q : IntKind} (hx : Ev f x (.int k' a)) (hs : Und P src (.int q)) (ht : Und P dst (.int k)) (hc : k.wrap a = c) : Ex P E f L ⟨some d, .convert src dst x, ty, pos, after, none⟩ (.int k c) := .mk fun w _ => by
  subst hc
  simp [execOp, hx.eq, convert, run_underlying hs.eq, run_underlying ht.eq, Conv.intToInt]
end ints
/-! ### values -/
theorem ex_makeFunc {g : Fn} {xs : List Operand} {vs : List Value} (hx : EvL f xs vs) : Ex P E f L ⟨some d, .makeFunc g #[] xs.toArray, ty, pos, after, none⟩ (.func g #[] vs.toArray) := .mk fun w _ => by
  have : xs.toArray.map (evO f) = vs.toArray := by rw [List.map_toArray, hx.eq]
  simp [execOp, Instr.makeFunc, this]
@[irreducible] def fieldTy (P : Program) (s i : Nat) : Option (Nat × Bool × Nat) :=
  match P.underlying s with
  | some (.struct fs) => (fs[i]?).bind fun fd => (tyOf P fd.type).map fun p => (fd.offset, p.1, p.2)
  | _ => none
theorem ex_field1 {x : Operand} {s i o m : Nat} {c : List Value} {v : Value} (hx : Ev f x (.agg c.toArray)) (ht : fieldTy P s i = some (o, false, m)) (hk : Nth c o v) : Ex P E f L ⟨some d, .field s x i, ty, pos, after, none⟩ v := .mk fun w _ => by
  unfold fieldTy at ht
  cases hu : P.underlying s with
  | none => simp [hu] at ht
  | some ds =>
    cases ds <;> simp only [hu, reduceCtorEq] at ht
    rename_i fs
    cases hfd : fs[i]? with
    | none => simp [hfd] at ht
    | some fd =>
    cases hp : tyOf P fd.type with
    | none => simp [hfd, hp] at ht
    | some q =>
    obtain ⟨ag, k⟩ := q
    simp only [hfd, hp, Option.bind_some, Option.map_some, Option.some.injEq, Prod.mk.injEq] at ht
    obtain ⟨rfl, rfl, rfl⟩ := ht
    simp [execOp, hx.eq, Instr.field, run_underlying hu, hfd, asAgg, part, run_aggT hp, hk.eq]
theorem ex_fieldN {x : Operand} {s i o m : Nat} {c r : List Value} (hx : Ev f x (.agg c.toArray)) (ht : fieldTy P s i = some (o, true, m)) (hk : Sub c o m r) : Ex P E f L ⟨some d, .field s x i, ty, pos, after, none⟩ (.agg r.toArray) := .mk fun w _ => by
  unfold fieldTy at ht
  cases hu : P.underlying s with
  | none => simp [hu] at ht
  | some ds =>
    cases ds <;> simp only [hu, reduceCtorEq] at ht
    rename_i fs
    cases hfd : fs[i]? with
    | none => simp [hfd] at ht
    | some fd =>
    cases hp : tyOf P fd.type with
    | none => simp [hfd, hp] at ht
    | some q =>
    obtain ⟨ag, k⟩ := q
    simp only [hfd, hp, Option.bind_some, Option.map_some, Option.some.injEq, Prod.mk.injEq] at ht
    obtain ⟨rfl, rfl, rfl⟩ := ht
    have hle : fd.offset + k ≤ c.length ∨ k = 0 := by
      have hl := hk.len
      rcases Nat.eq_zero_or_pos k with h | h
      · exact .inr h
      · left
        have h1 := hk.eq (k - 1) (by omega)
        have h2 : r[k - 1]? = some r[k - 1] := List.getElem?_eq_getElem (by omega)
        rw [h2] at h1
        have := (List.getElem?_eq_some_iff.1 h1).1
        omega
    have he : c.toArray.extract fd.offset (fd.offset + k) = r.toArray := by
      apply Array.ext'
      simp only [List.extract_toArray, List.extract_eq_take_drop]
      apply List.ext_getElem?
      intro j
      have hl := hk.len
      by_cases hj : j < r.length
      · rw [List.getElem?_take_of_lt (by omega), List.getElem?_drop, hk.eq j hj]
      · rw [List.getElem?_eq_none (l := r) (by omega)]
        rw [List.getElem?_eq_none]; simp; omega
    simp [execOp, hx.eq, Instr.field, run_underlying hu, hfd, asAgg, part, run_aggT hp, run_sizeT hp]
    simpa using congrArg Array.toList he
/-- an array's place -/
theorem ex_indexArr {x y : Operand} {t et : TypeId} {b o len s i : Nat} {ag : Bool} {j : Int} {q : IntKind} (hx : Ev f x (.pointer (some ⟨b, o, none⟩))) (hy : Ev f y (.int q j)) (ht : Und P t (.array len et)) (hT : tyOf P et = some (ag, s)) (hj : j = (i : Int)) (hi : i < len) :
    Ex P E f L ⟨some d, .indexAddr t x y, ty, pos, after, none⟩ (.pointer (some ⟨b, o + i * s, none⟩)) := .mk fun w hw => by
  subst hj
  have h1 : (0 : Int) ≤ (i : Int) ∧ (i : Int) < (len : Int) := by omega
  simp [execOp, hx.eq, hy.eq, Instr.indexAt, asIntOf, run_underlying ht.eq, h1.2, run_sizeT hT, add_none, hi, Instr.sureAddr]
end
def entV {K : Type} [DecidableEq K] (l : List (K × Value)) (k : K) (z : Value) : List (K × Value) := if hasK l k then l else l ++ [(k, z)]
/-- the entry with the stamp b is k's -/
def Stamp {K : Type} (enc : K → Value) (es : Array MapEntry) (b : Nat) (k : K) : Prop := ∃ e ∈ es.toList, e.born = b ∧ e.key = enc k
theorem lookV_append {K : Type} [DecidableEq K] (l : List (K × Value)) (k k' : K) (z : Value) : lookV (l ++ [(k, z)]) k' = (lookV l k').or (if k = k' then some z else none) := by
  induction l with
  | nil => rw [List.nil_append, lookV_cons, lookV_nil]; simp
  | cons p l ih =>
    rw [List.cons_append, lookV_cons, lookV_cons, ih]
    by_cases h : p.1 = k' <;> simp [h]
/-! ### 'm[k] op= v' -/
section
variable {K : Type} {dk : DecidableEq K} {P : Program} {E : Env} {n : Nat} {Q : SPost} {f : Nat → Value} {L : List Blk} {ty : TypeId} {pos : String} {after : Array Edge} {d : Nat}
include dk
variable {enc : K → Value} {l : List (K × Value)} {es : Array MapEntry} {clock : Nat} {t kt et : TypeId} {m : Nat} {k : K} {x y z : Operand}
end
/-! ### the map's laws once more, the key told apart -/
section
variable {K : Type} {dk : DecidableEq K} {P : Program} {E : Env} {n : Nat} {Q : SPost} {f : Nat → Value} {L : List Blk} {ty : TypeId} {pos : String} {after : Array Edge} {d : Nat}
include dk
variable {enc : K → Value} {l : List (K × Value)} {es : Array MapEntry} {clock : Nat} {t kt et : TypeId} {m : Nat} {k : K} {x y z : Operand} {u v z0 : Value}
theorem ex_look (hx : Ev f x (.map (some m))) (hm : (m, .map es clock) ∈ L) (hM : MapOf enc l es clock) (hy : Ev f y u) (hu : u = enc k) (KL : KeyLaw P kt enc) (ht : Und P t (.map kt et)) (hz : zeroVal P et = some z0) (hv : (lookV l k).getD z0 = v) :
    Ex P E f L ⟨some d, .lookup t x y false, ty, pos, after, none⟩ v := ex_lookup hx (hu ▸ hy) hm hM KL ht hz hv
theorem so_mapUp {ops rest : List Oper} (hx : Ev f x (.map (some m))) {L' : Array MapEntry → Nat → List Blk} (hT : ∀ es' c', Turn L m (.map es clock) (.map es' c') (L' es' c')) (hM : MapOf enc l es clock) (hy : Ev f y u) (hu : u = enc k) (hz : Ev f z v) (KL : KeyLaw P kt enc) (ht : Und P t (.map kt et))
    (h : ∀ es' c', MapOf enc (putV l k v) es' c' → SO P E n ops Q rest f (L' es' c')) : SO P E n ops Q (⟨none, .mapUpdate t x y z, ty, pos, after, none⟩ :: rest) f L := so_mapUpdate hx (hu ▸ hy) hz hT hM KL ht h
theorem so_del {ops rest : List Oper} {tk : TypeId} (hx : Ev f x (.map (some m))) {L' : Array MapEntry → Nat → List Blk} (hT : ∀ es' c', Turn L m (.map es clock) (.map es' c') (L' es' c')) (hM : MapOf enc l es clock) (hy : Ev f y u) (hu : u = enc k) (KL : KeyLaw P kt enc) (ht : Und P t (.map kt et))
    (h : ∀ es', MapOf enc (delV l k) es' clock → (∀ e ∈ es'.toList, e ∈ es.toList) → SO P E n ops Q rest f (L' es' clock)) : SO P E n ops Q (⟨none, .call ⟨.builtin .delete, #[x, y], #[t, tk]⟩, ty, pos, after, none⟩ :: rest) f L := so_delete hx (hu ▸ hy) hT hM KL ht h
end
/-! ### splits -/
/-! ### a loop of a few rounds -/
/-! ### slices written out -/
inductive SeqP (s : Nat) : Nat → List (Nat × Value) → List Value → Prop
  | nil {k} : SeqP s k [] []
  | cons {k v ps r q rq} : v.cells = r.toArray → r.length = s → SeqP s (k + 1) ps q → App r q rq → SeqP s k ((k, v) :: ps) rq
theorem setSub_mk : ∀ (o : Nat) (c r : List Value), o + r.length ≤ c.length → SetSub c o r (c.take o ++ r ++ c.drop (o + r.length))
  | 0, c, [], _ => by simpa using SetSub.nil
  | 0, [], r :: rs, h => by simp at h
  | 0, u :: c, r :: rs, h => by
    have := setSub_mk 0 c rs (by simpa using h)
    simpa using SetSub.take (u := u) (v := r) this
  | o + 1, [], r, h => by simp at h
  | o + 1, u :: c, r, h => by
    have := setSub_mk o c r (by simp at h; omega)
    have h2 := SetSub.drop (u := u) this
    simpa [Nat.add_right_comm] using h2
theorem fill_seq {s : Nat} : ∀ {k : Nat} {ps : List (Nat × Value)} {q : List Value}, SeqP s k ps q → ∀ c : List Value, c.length = (k + ps.length) * s → Instr.fill (fun i => some (i * s, s)) c.toArray ps = some (c.take (k * s) ++ q).toArray := by
  intro k ps q h
  induction h with
  | nil => intro c hc; simp [Instr.fill] at hc ⊢; rw [List.take_of_length_le (by omega)]
  | cons hv hr h' ha ih =>
    intro c hc
    rename_i k v ps r q rq
    simp only [List.length_cons] at hc
    have hle : k * s + r.length ≤ c.length := by
      rw [hc, hr, ← Nat.succ_mul]; exact Nat.mul_le_mul_right _ (by omega)
    have hs := setSub_mk (k * s) c r hle
    unfold Instr.fill
    simp only [hv, List.size_toArray, hr]
    rw [if_neg (by simp; omega), fill_step hs]
    have hl := hs.len
    rw [ih _ (by rw [hl.1, hc]; congr 1; omega)]
    congr 2
    rw [← ha.eq, ← List.append_assoc]
    congr 1
    rw [List.take_append_of_le_length (by simp [hr]; rw [Nat.min_eq_left (by omega), ← Nat.succ_mul]; exact Nat.le_refl _)]
    rw [List.take_of_length_le]
    simp [hr]; rw [Nat.min_eq_left (by omega), ← Nat.succ_mul]; exact Nat.le_refl _
section
variable {P : Program} {E : Env} {n : Nat} {Q : SPost} {f : Nat → Value} {L : List Blk} {ty : TypeId} {pos : String} {after : Array Edge} {d : Nat}
theorem so_buildS {ops rest : List Oper} {t et : TypeId} {len s : Nat} {ag : Bool} {z : Value} {ps : List (Nat × Operand)} {vs : List (Nat × Value)} {c : List Value} (hv : EvP f ps vs) (hu : Und P t (.slice et)) (hT : tyOf P et = some (ag, s)) (hz : zeroVal P et = some z) (hq : SeqP s 0 vs c) (hlen : vs.length = len) (hsm : Nat.ble (len * s) 16777216 = true) (hd : Nat.blt d n = true)
    (h : ∀ b, SO P E n ops Q rest (upd f d (.slice (some ⟨b, 0, none⟩) len len)) ((b, .cells c.toArray et) :: L)) : SO P E n ops Q (⟨some d, .buildSlice t len ps.toArray, ty, pos, after, none⟩ :: rest) f L := by
  refine so_buildSlice hv (fun w => ?_) hd h
  have hsm' := Nat.le_of_ble_eq_true hsm
  have e1 : (2 : Nat) ^ 24 = 16777216 := by decide
  unfold Instr.buildSlice
  simp only [Sem.run_bind, run_underlying hu.eq, Result.andThen_ok, run_sizeT hT]
  rw [if_neg (by omega)]
  have key : ∀ zz : Array Value, Instr.fill (fun i => some (i * s, s)) ((Array.range (len * s)).map (zz[· % zz.size]!)) vs = some c.toArray := by
    intro zz
    have := fill_seq hq ((Array.range (len * s)).map (zz[· % zz.size]!)).toList (by simp [hlen])
    rw [Array.toArray_toList] at this
    rw [this]; simp
  have hfin : ∀ (st : Sem Value) (zz : Array Value), (match Instr.fill (fun i => some (i * s, s)) ((Array.range (len * s)).map (zz[· % zz.size]!)) vs with
      | some cells => do pure (Value.slice (some (← newRow et cells)) len len)
      | _ => st : Sem Value).run P w = .ok (.slice (some ⟨w.heap.size, 0, none⟩) len len) (w.alloc (.cells c.toArray et)) := by
    intro st zz
    rw [key zz]
    simp only [newRow, newObj]
    rfl
  by_cases h0 : len * s = 0
  · rw [if_pos h0, Sem.run_bind, Sem.run_pure, Result.andThen_ok]
    exact hfin _ #[]
  · rw [if_neg h0, Sem.run_bind, run_zeroV hz, Result.andThen_ok, Sem.run_bind, Sem.run_pure, Result.andThen_ok]
    exact hfin _ z.cells
end
/-! ### an own slice grows -/
section
variable {P : Program} {E : Env} {n : Nat} {Q : SPost} {f : Nat → Value} {L R : List Blk} {ty : TypeId} {pos : String} {after : Array Edge} {d : Nat} {ops rest : List Oper} {x y : Operand} {t et : TypeId} {ag : Bool} {s by_ m c2 b2 : Nat} {T2 : TypeId} {fz : Nat × Nat} {xs ys z junk : List Value}
theorem so_app0 (hx : Ev f x (.slice none 0 0)) (hy : Ev f y (.slice (some ⟨b2, 0, none⟩) m c2)) (hm2 : (b2, .cells ys.toArray T2 fz) ∈ L) (ht : Und P t (.slice et)) (hT : tyOf P et = some (ag, s)) (hz : zeroOf P et = some z) (hzl : z.length = s) (hby : bytesT P et = some by_) (hyl : ys.length = m * s) (hm0 : Nat.ble 1 m = true) (hb : m * by_ ≤ 140737488355328) (hlm : m ≤ 9223372036854775807) (hs1 : Nat.ble 1 s = true)
    (hone : ys.all (·.oneCell') = true) (hd : Nat.blt d n = true)
    (h : ∀ b cap junk, (ys ++ junk).length = cap * s → SO P E n ops Q rest (upd f d (.slice (some ⟨b, 0, none⟩) m cap)) ((b, .cells (ys ++ junk).toArray et) :: L)) :
    SO P E n ops Q (⟨some d, .call ⟨.builtin .append, #[x, y], #[t, t]⟩, ty, pos, after, none⟩ :: rest) f L := by
  refine so_append hx hy Row.nil Sel.nil hm2 hyl (fun j _ => by simp) ht hT hz hzl hby (by simpa using hb) (by simpa using hlm) hs1 hone hd fun v' H' hr hn => ?_
  have hm0' := Nat.le_of_ble_eq_true hm0
  have hs1' := Nat.le_of_ble_eq_true hs1
  have hys : ys ≠ [] := by
    intro h0; subst h0
    have : 1 * 1 ≤ m * s := Nat.mul_le_mul hm0' hs1'
    simp at hyl; omega
  cases hr with
  | nil => exact absurd (by simpa using (hn rfl)) hys
  | row h1 h2 =>
    rename_i b len cap junk
    simp only [List.nil_append] at h1 h2 ⊢
    have hlen : len = m := Nat.eq_of_mul_eq_mul_right hs1' (h1.symm.trans hyl)
    subst hlen
    exact h b cap junk h2
theorem so_app1 {b len cap : Nat} (hx : Ev f x (.slice (some ⟨b, 0, none⟩) len cap)) (hy : Ev f y (.slice (some ⟨b2, 0, none⟩) m c2)) (hs : Pick L (b, .cells (xs ++ junk).toArray et) R) (hm2 : (b2, .cells ys.toArray T2 fz) ∈ L) (hxl : xs.length = len * s) (hjl : (xs ++ junk).length = cap * s)
    (ht : Und P t (.slice et)) (hT : tyOf P et = some (ag, s)) (hz : zeroOf P et = some z) (hzl : z.length = s) (hby : bytesT P et = some by_) (hyl : ys.length = m * s) (hm0 : Nat.ble 1 m = true) (hb : (len + m) * by_ ≤ 140737488355328) (hlm : len + m ≤ 9223372036854775807) (hs1 : Nat.ble 1 s = true)
    (hone : ys.all (·.oneCell') = true) (hd : Nat.blt d n = true)
    (h : ∀ b cap junk, (xs ++ ys ++ junk).length = cap * s → (xs ++ ys).length = (len + m) * s → SO P E n ops Q rest (upd f d (.slice (some ⟨b, 0, none⟩) (len + m) cap)) ((b, .cells (xs ++ ys ++ junk).toArray et) :: R)) :
    SO P E n ops Q (⟨some d, .call ⟨.builtin .append, #[x, y], #[t, t]⟩, ty, pos, after, none⟩ :: rest) f L := by
  refine so_append hx hy (Row.row hxl hjl) (Sel.cons hs Sel.nil) hm2 hyl (fun j _ => by simp) ht hT hz hzl hby hb hlm hs1 hone hd fun v' H' hr hn => ?_
  have hm0' := Nat.le_of_ble_eq_true hm0
  have hs1' := Nat.le_of_ble_eq_true hs1
  have hys : ys ≠ [] := by
    intro h0; subst h0
    have : 1 * 1 ≤ m * s := Nat.mul_le_mul hm0' hs1'
    simp at hyl; omega
  generalize hq : xs ++ ys = q at hr hn h
  cases hr with
  | nil => exact absurd (hq.trans (hn rfl)) (by simp [hys])
  | row h1 h2 =>
    rename_i b len' cap junk
    subst hq
    have hl2 : (xs ++ ys).length = (len + m) * s := by rw [List.length_append, hxl, hyl, Nat.add_mul]
    have hlen : len' = len + m := Nat.eq_of_mul_eq_mul_right hs1' (h1.symm.trans hl2)
    subst hlen
    exact h b cap junk h2 hl2
end
/-! ### what a loop holds: the blocks ps, and R behind them -/
def Held (L ps R : List Blk) : Prop := ∃ G, L.Perm (ps ++ (G ++ R))
theorem held {L ps M G R : List Blk} (hs : Sel L ps M) (hg : AppB G R M) : Held L ps R := ⟨G, by rw [← hg.eq]; exact hs.perm⟩
theorem Sel.skip {L ps R : List Blk} {p : Blk} (h : Sel L ps R) : Sel (p :: L) ps (p :: R) := by
  induction h generalizing p with
  | nil => exact .nil
  | cons hp _ ih => exact .cons (.there hp) ih
theorem Sel.all : ∀ {ps R : List Blk}, Sel (ps ++ R) ps R
  | [], _ => .nil
  | _ :: _, _ => .cons .here Sel.all
theorem Sel.self : ∀ {ps : List Blk}, Sel ps ps []
  | [] => .nil
  | _ :: _ => .cons .here Sel.self
theorem ex_ent {K : Type} {P : Program} {E : Env} {f : Nat → Value} {L : List Blk} {ty : TypeId} {pos : String} {after : Array Edge} {d : Nat} {enc : K → Value} {l : List (K × Value)} {es : Array MapEntry} {clock m : Nat} {x : Operand} {r since : Nat} {seen : Array Nat} {kv v : Value}
    (hx : Ev f x (.pointer (some ⟨r, 0, none⟩))) (hr : (r, .mapIter (some m) since seen clock) ∈ L) (hm : (m, .map es clock) ∈ L) (hM : MapOf enc l es clock) (hc : Cur es seen kv v) : Ex P E f L ⟨some d, .entry x, ty, pos, after, none⟩ (.tuple #[kv, v]) := ex_entry hx hm hr hM hc
/-! ### calls that yield a truth value -/
theorem so_nxt {K : Type} {P : Program} {E : Env} {n : Nat} {Q : SPost} {f : Nat → Value} {L : List Blk} {ty : TypeId} {pos : String} {after : Array Edge} {d : Nat} {enc : K → Value} {l : List (K × Value)} {es : Array MapEntry} {clock m : Nat} {x : Operand} {ops rest : List Oper} {r since stepped : Nat} {seen : Array Nat} {vis : List K}
    (hx : Ev f x (.pointer (some ⟨r, 0, none⟩))) {L' : Array Nat → List Blk} (hT : ∀ seen', Turn L r (.mapIter (some m) since seen stepped) (.mapIter (some m) since seen' clock) (L' seen')) (hm : (m, .map es clock) ∈ L)
    (hM : MapOf enc l es clock) (hI : Iter enc es since seen vis) (hst : since ≤ stepped) (hinj : ∀ a b, enc a = enc b → a = b) (hd : Nat.blt d n = true)
    (h0 : (∀ p ∈ l, p.1 ∈ vis) → SO P E n ops Q rest (upd f d (.tuple #[.bool false])) L)
    (h1 : ∀ p seen', p ∈ l → p.1 ∉ vis → Iter enc es since seen' (p.1 :: vis) → Cur es seen' (enc p.1) p.2 → SO P E n ops Q rest (upd f d (.tuple #[.bool true, enc p.1, p.2])) (L' seen')) :
    SO P E n ops Q (⟨some d, .next x false, ty, pos, after, none⟩ :: rest) f L := so_next hx hm hT hM hI hst hinj hd h0 h1
/-! ### numbers in range -/
def InI (x : Int) : Prop := -9223372036854775808 ≤ x ∧ x ≤ 9223372036854775807
attribute [irreducible] entV bitsZ
theorem wrap_in {x : Int} (h : InI x) : IntKind.i64.wrap x = x := by
  unfold InI at h
  have e : IntKind.i64.wrap x = if x % 18446744073709551616 ≥ 9223372036854775808 then x % 18446744073709551616 - 18446744073709551616 else x % 18446744073709551616 := by
    simp only [IntKind.wrap, IntKind.signed, Bool.true_and, decide_eq_true_eq]
    rfl
  rw [e]
  split <;> omega
end Go.Sym
