/- RcO: maps. -/
import Derived.Test.YtomgkmoecbnddaaRcN
set_option linter.unusedVariables false
set_option linter.unusedSimpArgs false
set_option linter.unnecessarySimpa false
namespace Go.Rc
open Go Go.Sym
section
variable {P : Program} {n : Nat} {x y z : Operand} {g gx gy gz : G} {t yt : TypeId}
theorem keyLaw_int {kt : TypeId} {q : IntKind} (hd : P.underlying kt = some (.int q)) : KeyLaw (K := Int) P kt (.int q) := KeyLaw.of_int hd fun b k w => by
  show (Instr.checkKey b (9999 + 1) kt (.int q k)).run P w = _
  rw [Instr.checkKey, Sem.run_bind, run_underlying hd]; rfl
theorem bytes_beq (a b : ByteArray) : (a == b) = decide (a = b) := by
  cases a; cases b
  rename_i a b
  show (a == b) = _
  by_cases h : a = b
  · subst h; simp
  · have : (a == b) = false := by simpa using h
    rw [this, decide_eq_false]; intro e; cases e; exact h rfl
theorem keyLaw_str {kt : TypeId} (hd : P.underlying kt = some .string) : KeyLaw (K := ByteArray) P kt .string := by
  refine ⟨fun b k w => ?_, fun k => by simp [Instr.sameBits, bytes_beq], fun k ks es w h => ?_⟩
  · show (Instr.checkKey b (9999 + 1) kt (.string k)).run P w = _
    rw [Instr.checkKey, Sem.run_bind, run_underlying hd]; rfl
  · unfold Instr.findKey
    rw [Sem.run_bind, run_underlying hd, Result.andThen_ok]
    have key : ∀ (ks : List ByteArray) (es : List MapEntry) (j : Nat), es.map (·.key) = ks.map Value.string → Instr.findNow .string (.string k) es j = some ((@List.idxOf? ByteArray instBEqOfDecidableEq k ks).bind fun i => (es[i]?).map fun e => (i + j, e.val)) := by
      intro ks
      induction ks with
      | nil => intro es j h; have : es = [] := by simpa using h
               subst this; simp [Instr.findNow]
      | cons a ks ih =>
        intro es j h
        cases es with
        | nil => simp at h
        | cons e es =>
          simp only [List.map_cons, List.cons.injEq] at h
          obtain ⟨h1, h2⟩ := h
          unfold Instr.findNow
          rw [h1, idxOf?_cons]
          by_cases hk : k = a
          · subst hk; simp [Instr.sameNow, bytes_beq]
          · have hk' : ¬ a = k := fun h => hk h.symm
            have : (k == a) = false := by rw [bytes_beq]; simpa using hk
            simp only [Instr.sameNow, this, hk', if_false]
            rw [ih es (j + 1) h2]
            cases hi : @List.idxOf? ByteArray instBEqOfDecidableEq k ks with
            | none => simp
            | some i => simp [Nat.add_assoc, Nat.add_comm 1 j]
    rw [key ks es 0 h]
    simp
/-- the keys of a map's type; 'ke' tells their kind -/
theorem keyK_t {t : TypeId} {k : Nat → Bool} (h : keyK P t k = true) : ∃ kt et, P.underlying t = some (.map kt et) ∧ ((∃ q, P.underlying kt = some (.int q) ∧ k (kc q) = true) ∨ (P.underlying kt = some .string ∧ k 8 = true)) := by
  unfold keyK at h
  split at h
  · rename_i kt et ht
    split at h
    · rename_i q hq; exact ⟨kt, et, ht, .inl ⟨q, hq, h⟩⟩
    · rename_i hq; exact ⟨kt, et, ht, .inr ⟨hq, h⟩⟩
    · cases h
  · cases h
theorem kc_lt (q : IntKind) : kc q ≠ 8 := by cases q <;> decide
/-! entries, at keys that are numbers or strings -/
/-- list l of the interpreter tells the entries ml -/
structure Ents (K : Type) (enc : K → Value) where
  rel : Sg → V → List (K × Value) → Prop
def EntK (σ : Sg) (q : IntKind) (a b : Nat) (z : Int) : Prop := b = kc q ∧ a < kmod q ∧ z = q.wrap a
theorem EntK.eq {σ : Sg} {q : IntKind} {a b a' b' : Nat} {z z' : Int} (h : EntK σ q a b z) (h' : EntK σ q a' b' z') : (a = a' ∧ b = b') ↔ z = z' := by
  obtain ⟨h1, h2, h3⟩ := h
  obtain ⟨h4, h5, h6⟩ := h'
  refine ⟨fun ⟨e, _⟩ => by rw [h3, h6, e], fun e => ⟨wrap_inj h2 h5 (by rw [← h3, ← h6, e]), by rw [h1, h4]⟩⟩
theorem bytes_ext : ∀ {s u : ByteArray}, s.data.toList = u.data.toList → s = u
  | ⟨⟨_⟩⟩, ⟨⟨_⟩⟩, rfl => rfl
theorem strK_eq {s u : ByteArray} {a b a' b' : Nat} (ha : a = strNum s.data.toList) (hb : b = s.size) (ha' : a' = strNum u.data.toList) (hb' : b' = u.size) : (a = a' ∧ b = b') ↔ s = u := by
  subst ha hb ha' hb'
  rw [strEq_iff]
  exact ⟨bytes_ext, fun h => by rw [h]⟩
theorem two_beq {a b x y : Nat} {T F : Bool} (h : bi (Nat.beq a x) (bi (Nat.beq b y) T F) F = true) : ((a = x ∧ b = y) ∧ T = true) ∨ (¬ (a = x ∧ b = y) ∧ F = true) := by
  rcases bi_t h with ⟨h1, h2⟩ | ⟨h1, h2⟩
  · rcases bi_t h2 with ⟨h3, h4⟩ | ⟨h3, h4⟩
    · exact .inl ⟨⟨beq_t h1, beq_t h3⟩, h4⟩
    · exact .inr ⟨fun e => beq_f h3 e.2, h4⟩
  · exact .inr ⟨fun e => beq_f h1 e.1, h2⟩
theorem lookM_t {σ : Sg} {q : IntKind} {l : V} {ml : List (Int × Value)} (h : RelM σ q l ml) {a b : Nat} {z : Int} (hz : EntK σ q a b z) : ∀ {k : V → Bool} {f : Bool}, lookK l a b k f = true → (∃ v val, lookV ml z = some val ∧ Rel σ v val ∧ k v = true) ∨ (lookV ml z = none ∧ f = true) := by
  induction h with
  | nil => intro k f e; exact .inr ⟨rfl, e⟩
  | cons hb ha hz' hk hv _ ih =>
    intro k f e
    rw [lookV_cons]
    rcases two_beq e with ⟨h1, e2⟩ | ⟨h1, e2⟩
    · rw [if_pos ((EntK.eq (σ := σ) ⟨hb, ha, hz'⟩ hz).1 h1)]
      exact .inl ⟨_, _, rfl, hv, e2⟩
    · rw [if_neg (fun e3 => h1 ((EntK.eq (σ := σ) ⟨hb, ha, hz'⟩ hz).2 e3))]
      exact ih e2
theorem lookMS_t {σ : Sg} {l : V} {ml : List (ByteArray × Value)} (h : RelMS σ l ml) {a b : Nat} {z : ByteArray} (hz : a = strNum z.data.toList ∧ b = z.size) : ∀ {k : V → Bool} {f : Bool}, lookK l a b k f = true → (∃ v val, lookV ml z = some val ∧ Rel σ v val ∧ k v = true) ∨ (lookV ml z = none ∧ f = true) := by
  induction h with
  | nil => intro k f e; exact .inr ⟨rfl, e⟩
  | cons ha hb hk hv _ ih =>
    intro k f e
    rw [lookV_cons]
    rcases two_beq e with ⟨h1, e2⟩ | ⟨h1, e2⟩
    · rw [if_pos ((strK_eq ha hb hz.1 hz.2).1 h1)]
      exact .inl ⟨_, _, rfl, hv, e2⟩
    · rw [if_neg (fun e3 => h1 ((strK_eq ha hb hz.1 hz.2).2 e3))]
      exact ih e2
theorem putV_cons {K : Type} [DecidableEq K] {p : K × Value} {l : List (K × Value)} {k : K} {v : Value} (hn : ((p :: l).map (·.1)).Nodup) : putV (p :: l) k v = if p.1 = k then (k, v) :: l else p :: putV l k v := by
  unfold putV
  by_cases h : p.1 = k
  · have hh : Go.Sym.hasK (p :: l) k = true := by simp [Go.Sym.hasK, h]
    rw [if_pos hh, if_pos h]
    simp only [List.map_cons, h, if_true]
    congr 1
    rw [List.map_cons, List.nodup_cons] at hn
    have : ∀ q ∈ l, (if q.1 = k then (q.1, v) else q) = q := fun q hq => by
      rw [if_neg]; intro e; exact hn.1 (List.mem_map.2 ⟨q, hq, by rw [e, h]⟩)
    rw [List.map_congr_left this]; simp
  · rw [if_neg h]
    have hh : Go.Sym.hasK (p :: l) k = Go.Sym.hasK l k := by simp [Go.Sym.hasK, h]
    rw [hh]
    by_cases h2 : Go.Sym.hasK l k = true
    · rw [if_pos h2, if_pos h2]; simp [h]
    · rw [if_neg h2, if_neg h2]; rfl
theorem delV_cons {K : Type} [DecidableEq K] {p : K × Value} {l : List (K × Value)} {k : K} (hn : ((p :: l).map (·.1)).Nodup) : delV (p :: l) k = if p.1 = k then l else p :: delV l k := by
  unfold delV
  by_cases h : p.1 = k
  · rw [if_pos h]
    rw [List.map_cons, List.nodup_cons] at hn
    rw [List.filter_cons]
    simp only [h, decide_true, Bool.not_true, Bool.false_eq_true, if_false]
    refine List.filter_eq_self.2 fun q hq => ?_
    simp; intro e; exact hn.1 (List.mem_map.2 ⟨q, hq, by rw [e, h]⟩)
  · rw [if_neg h, List.filter_cons]; simp [h]
theorem nodup_tail {α : Type} {a : α} {l : List α} (h : (a :: l).Nodup) : l.Nodup := (List.nodup_cons.1 h).2
theorem upM_t {σ : Sg} {q : IntKind} {l : V} {ml : List (Int × Value)} (h : RelM σ q l ml) {a b : Nat} {z : Int} (hz : EntK σ q a b z) {kv v : V} {val : Value} (hkv : Rel σ kv (.int q z)) (hv : Rel σ v val) (hn : (ml.map (·.1)).Nodup) : ∀ {k : V → Bool}, upK l a b kv v k = true → ∃ l', k l' = true ∧ RelM σ q l' (putV ml z val) := by
  induction h with
  | nil => intro k e; exact ⟨_, e, .cons hz.1 hz.2.1 hz.2.2 hkv hv .nil⟩
  | cons hb ha hz' hk' hv' hr ih =>
    intro k e
    rw [putV_cons hn]
    rcases two_beq e with ⟨h1, e2⟩ | ⟨h1, e2⟩
    · rw [if_pos ((EntK.eq (σ := σ) ⟨hb, ha, hz'⟩ hz).1 h1)]
      exact ⟨_, e2, .cons hb ha (by rw [h1.1]; exact hz.2.2) hkv hv hr⟩
    · rw [if_neg (fun e3 => h1 ((EntK.eq (σ := σ) ⟨hb, ha, hz'⟩ hz).2 e3))]
      obtain ⟨l', e3, h3⟩ := ih (nodup_tail hn) e2
      exact ⟨_, e3, .cons hb ha hz' hk' hv' h3⟩
theorem upMS_t {σ : Sg} {l : V} {ml : List (ByteArray × Value)} (h : RelMS σ l ml) {a b : Nat} {z : ByteArray} (hz : a = strNum z.data.toList ∧ b = z.size) {kv v : V} {val : Value} (hkv : Rel σ kv (.string z)) (hv : Rel σ v val) (hn : (ml.map (·.1)).Nodup) : ∀ {k : V → Bool}, upK l a b kv v k = true → ∃ l', k l' = true ∧ RelMS σ l' (putV ml z val) := by
  induction h with
  | nil => intro k e; exact ⟨_, e, .cons hz.1 hz.2 hkv hv .nil⟩
  | cons ha hb hk' hv' hr ih =>
    intro k e
    rw [putV_cons hn]
    rcases two_beq e with ⟨h1, e2⟩ | ⟨h1, e2⟩
    · have he := (strK_eq ha hb hz.1 hz.2).1 h1
      rw [if_pos he]
      exact ⟨_, e2, .cons (by rw [h1.1]; exact hz.1) (by rw [h1.2]; exact hz.2) hkv hv hr⟩
    · rw [if_neg (fun e3 => h1 ((strK_eq ha hb hz.1 hz.2).2 e3))]
      obtain ⟨l', e3, h3⟩ := ih (nodup_tail hn) e2
      exact ⟨_, e3, .cons ha hb hk' hv' h3⟩
theorem delM_t {σ : Sg} {q : IntKind} {l : V} {ml : List (Int × Value)} (h : RelM σ q l ml) {a b : Nat} {z : Int} (hz : EntK σ q a b z) (hn : (ml.map (·.1)).Nodup) : ∀ {k : V → Bool}, delK l a b k = true → ∃ l', k l' = true ∧ RelM σ q l' (delV ml z) := by
  induction h with
  | nil => intro k e; exact ⟨_, e, .nil⟩
  | cons hb ha hz' hk' hv' hr ih =>
    intro k e
    rw [delV_cons hn]
    rcases two_beq e with ⟨h1, e2⟩ | ⟨h1, e2⟩
    · rw [if_pos ((EntK.eq (σ := σ) ⟨hb, ha, hz'⟩ hz).1 h1)]
      exact ⟨_, e2, hr⟩
    · rw [if_neg (fun e3 => h1 ((EntK.eq (σ := σ) ⟨hb, ha, hz'⟩ hz).2 e3))]
      obtain ⟨l', e3, h3⟩ := ih (nodup_tail hn) e2
      exact ⟨_, e3, .cons hb ha hz' hk' hv' h3⟩
theorem delMS_t {σ : Sg} {l : V} {ml : List (ByteArray × Value)} (h : RelMS σ l ml) {a b : Nat} {z : ByteArray} (hz : a = strNum z.data.toList ∧ b = z.size) (hn : (ml.map (·.1)).Nodup) : ∀ {k : V → Bool}, delK l a b k = true → ∃ l', k l' = true ∧ RelMS σ l' (delV ml z) := by
  induction h with
  | nil => intro k e; exact ⟨_, e, .nil⟩
  | cons ha hb hk' hv' hr ih =>
    intro k e
    rw [delV_cons hn]
    rcases two_beq e with ⟨h1, e2⟩ | ⟨h1, e2⟩
    · rw [if_pos ((strK_eq ha hb hz.1 hz.2).1 h1)]
      exact ⟨_, e2, hr⟩
    · rw [if_neg (fun e3 => h1 ((strK_eq ha hb hz.1 hz.2).2 e3))]
      obtain ⟨l', e3, h3⟩ := ih (nodup_tail hn) e2
      exact ⟨_, e3, .cons ha hb hk' hv' h3⟩
end
end Go.Rc
