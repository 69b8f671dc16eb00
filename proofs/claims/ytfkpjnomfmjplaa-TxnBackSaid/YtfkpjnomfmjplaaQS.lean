/- RcO: maps. RcP: operations on maps; those that make blocks, and stores. RcQ: operations that make blocks; stores. RcR: make of slices; calls. RcS: what the compiler of operations makes. RcT: operations carried out on the machine; regions in one order. RcU: regions that are carried out in one order. RcV: regions that draw their order. RcW: what the compiler makes of a region that draws. RcX: the compiler of regions that draw. RcY: code. RcZ: loops over functions. RdA: the statement that ranges over a function. RdB: functions. RdC: calls; the whole. The sanity check of the chapter, run by the kernel; it is not carried out again. -/
import Derived.Test.YtfkpjnomfmjplaaQR
import Derived.Laws.MakeOwn
import Derived.AtR
import Derived.Orders
import Derived.RangeFuncIn
import Derived.RangeFuncNested
import Derived.RangeFuncLeaves
import Derived.RowKit3
import Derived.Test.YtfkpjnomfmjplaaChecked
import Derived.KernelRfl
set_option linter.unusedVariables false
set_option linter.unusedSimpArgs false
set_option linter.unnecessarySimpa false
namespace Go.Rc
open Go Go.Sym
section
variable {P : Program} {n : Nat} {x y z : Operand} {g gx gy gz : G} {t yt : TypeId}
theorem keyLaw_int {kt : TypeId} {q : IntKind} (hd : P.underlying kt = some (.int q)) : KeyLaw (K := Int) P kt (.int q) := KeyLaw.of_int hd fun b k w => by
  show (Instr.checkKey b (9999 + 1) kt (.int q k)).run P w = _
  rw [Instr.checkKey, Sem.run_bind, run_underlying hd]; rfl
theorem bytes_beq (a b : ByteArray) : (a == b) = decide (a = b) := by
  cases a; cases b
  rename_i a b
  show (a == b) = _
  by_cases h : a = b
  · subst h; simp
  · have : (a == b) = false := by simpa using h
    rw [this, decide_eq_false]; intro e; cases e; exact h rfl
theorem keyLaw_str {kt : TypeId} (hd : P.underlying kt = some .string) : KeyLaw (K := ByteArray) P kt .string := by
  refine ⟨fun b k w => ?_, fun k => by simp [Instr.sameBits, bytes_beq], fun k ks es w h => ?_⟩
  · show (Instr.checkKey b (9999 + 1) kt (.string k)).run P w = _
    rw [Instr.checkKey, Sem.run_bind, run_underlying hd]; rfl
  · unfold Instr.findKey
    rw [Sem.run_bind, run_underlying hd, Result.andThen_ok]
    have key : ∀ (ks : List ByteArray) (es : List MapEntry) (j : Nat), es.map (·.key) = ks.map Value.string → Instr.findNow .string (.string k) es j = some ((@List.idxOf? ByteArray instBEqOfDecidableEq k ks).bind fun i => (es[i]?).map fun e => (i + j, e.val)) := by
      intro ks
      induction ks with
      | nil => intro es j h; have : es = [] := by simpa using h
               subst this; simp [Instr.findNow]
      | cons a ks ih =>
        intro es j h
        cases es with
        | nil => simp at h
        | cons e es =>
          simp only [List.map_cons, List.cons.injEq] at h
          obtain ⟨h1, h2⟩ := h
          unfold Instr.findNow
          rw [h1, idxOf?_cons]
          by_cases hk : k = a
          · subst hk; simp [Instr.sameNow, bytes_beq]
          · have hk' : ¬ a = k := fun h => hk h.symm
            have : (k == a) = false := by rw [bytes_beq]; simpa using hk
            simp only [Instr.sameNow, this, hk', if_false]
            rw [ih es (j + 1) h2]
            cases hi : @List.idxOf? ByteArray instBEqOfDecidableEq k ks with
            | none => simp
            | some i => simp [Nat.add_assoc, Nat.add_comm 1 j]
    rw [key ks es 0 h]
    simp
theorem kc_lt (q : IntKind) : kc q ≠ 8 := by cases q <;> decide
/-! entries, at keys that are numbers or strings -/
def EntK (σ : Sg) (q : IntKind) (a b : Nat) (z : Int) : Prop := b = kc q ∧ a < kmod q ∧ z = q.wrap a
theorem EntK.eq {σ : Sg} {q : IntKind} {a b a' b' : Nat} {z z' : Int} (h : EntK σ q a b z) (h' : EntK σ q a' b' z') : (a = a' ∧ b = b') ↔ z = z' := by
  obtain ⟨h1, h2, h3⟩ := h
  obtain ⟨h4, h5, h6⟩ := h'
  refine ⟨fun ⟨e, _⟩ => by rw [h3, h6, e], fun e => ⟨wrap_inj h2 h5 (by rw [← h3, ← h6, e]), by rw [h1, h4]⟩⟩
theorem bytes_ext : ∀ {s u : ByteArray}, s.data.toList = u.data.toList → s = u
  | ⟨⟨_⟩⟩, ⟨⟨_⟩⟩, rfl => rfl
theorem strK_eq {s u : ByteArray} {a b a' b' : Nat} (ha : a = strNum s.data.toList) (hb : b = s.size) (ha' : a' = strNum u.data.toList) (hb' : b' = u.size) : (a = a' ∧ b = b') ↔ s = u := by
  subst ha hb ha' hb'
  rw [strEq_iff]
  exact ⟨bytes_ext, fun h => by rw [h]⟩
theorem two_beq {a b x y : Nat} {T F : Bool} (h : bi (Nat.beq a x) (bi (Nat.beq b y) T F) F = true) : ((a = x ∧ b = y) ∧ T = true) ∨ (¬ (a = x ∧ b = y) ∧ F = true) := by
  rcases bi_t h with ⟨h1, h2⟩ | ⟨h1, h2⟩
  · rcases bi_t h2 with ⟨h3, h4⟩ | ⟨h3, h4⟩
    · exact .inl ⟨⟨beq_t h1, beq_t h3⟩, h4⟩
    · exact .inr ⟨fun e => beq_f h3 e.2, h4⟩
  · exact .inr ⟨fun e => beq_f h1 e.1, h2⟩
theorem lookM_t {σ : Sg} {q : IntKind} {l : V} {ml : List (Int × Value)} (h : RelM σ q l ml) {a b : Nat} {z : Int} (hz : EntK σ q a b z) : ∀ {k : V → Bool} {f : Bool}, lookK l a b k f = true → (∃ v val, lookV ml z = some val ∧ Rel σ v val ∧ k v = true) ∨ (lookV ml z = none ∧ f = true) := by
  induction h with
  | nil => intro k f e; exact .inr ⟨rfl, e⟩
  | cons hb ha hz' hk hv _ ih =>
    intro k f e
    rw [lookV_cons]
    rcases two_beq e with ⟨h1, e2⟩ | ⟨h1, e2⟩
    · rw [if_pos ((EntK.eq (σ := σ) ⟨hb, ha, hz'⟩ hz).1 h1)]
      exact .inl ⟨_, _, rfl, hv, e2⟩
    · rw [if_neg (fun e3 => h1 ((EntK.eq (σ := σ) ⟨hb, ha, hz'⟩ hz).2 e3))]
      exact ih e2
theorem lookMS_t {σ : Sg} {l : V} {ml : List (ByteArray × Value)} (h : RelMS σ l ml) {a b : Nat} {z : ByteArray} (hz : a = strNum z.data.toList ∧ b = z.size) : ∀ {k : V → Bool} {f : Bool}, lookK l a b k f = true → (∃ v val, lookV ml z = some val ∧ Rel σ v val ∧ k v = true) ∨ (lookV ml z = none ∧ f = true) := by
  induction h with
  | nil => intro k f e; exact .inr ⟨rfl, e⟩
  | cons ha hb hk hv _ ih =>
    intro k f e
    rw [lookV_cons]
    rcases two_beq e with ⟨h1, e2⟩ | ⟨h1, e2⟩
    · rw [if_pos ((strK_eq ha hb hz.1 hz.2).1 h1)]
      exact .inl ⟨_, _, rfl, hv, e2⟩
    · rw [if_neg (fun e3 => h1 ((strK_eq ha hb hz.1 hz.2).2 e3))]
      exact ih e2
theorem putV_cons {K : Type} [DecidableEq K] {p : K × Value} {l : List (K × Value)} {k : K} {v : Value} (hn : ((p :: l).map (·.1)).Nodup) : putV (p :: l) k v = if p.1 = k then (k, v) :: l else p :: putV l k v := by
  unfold putV
  by_cases h : p.1 = k
  · have hh : Go.Sym.hasK (p :: l) k = true := by simp [Go.Sym.hasK, h]
    rw [if_pos hh, if_pos h]
    simp only [List.map_cons, h, if_true]
    congr 1
    rw [List.map_cons, List.nodup_cons] at hn
    have : ∀ q ∈ l, (if q.1 = k then (q.1, v) else q) = q := fun q hq => by
      rw [if_neg]; intro e; exact hn.1 (List.mem_map.2 ⟨q, hq, by rw [e, h]⟩)
    rw [List.map_congr_left this]; simp
  · rw [if_neg h]
    have hh : Go.Sym.hasK (p :: l) k = Go.Sym.hasK l k := by simp [Go.Sym.hasK, h]
    rw [hh]
    by_cases h2 : Go.Sym.hasK l k = true
    · rw [if_pos h2, if_pos h2]; simp [h]
    · rw [if_neg h2, if_neg h2]; rfl
theorem delV_cons {K : Type} [DecidableEq K] {p : K × Value} {l : List (K × Value)} {k : K} (hn : ((p :: l).map (·.1)).Nodup) : delV (p :: l) k = if p.1 = k then l else p :: delV l k := by
  unfold delV
  by_cases h : p.1 = k
  · rw [if_pos h]
    rw [List.map_cons, List.nodup_cons] at hn
    rw [List.filter_cons]
    simp only [h, decide_true, Bool.not_true, Bool.false_eq_true, if_false]
    refine List.filter_eq_self.2 fun q hq => ?_
    simp; intro e; exact hn.1 (List.mem_map.2 ⟨q, hq, by rw [e, h]⟩)
  · rw [if_neg h, List.filter_cons]; simp [h]
theorem nodup_tail {α : Type} {a : α} {l : List α} (h : (a :: l).Nodup) : l.Nodup := (List.nodup_cons.1 h).2
theorem upM_t {σ : Sg} {q : IntKind} {l : V} {ml : List (Int × Value)} (h : RelM σ q l ml) {a b : Nat} {z : Int} (hz : EntK σ q a b z) {kv v : V} {val : Value} (hkv : Rel σ kv (.int q z)) (hv : Rel σ v val) (hn : (ml.map (·.1)).Nodup) : ∀ {k : V → Bool}, upK l a b kv v k = true → ∃ l', k l' = true ∧ RelM σ q l' (putV ml z val) := by
  induction h with
  | nil => intro k e; exact ⟨_, e, .cons hz.1 hz.2.1 hz.2.2 hkv hv .nil⟩
  | cons hb ha hz' hk' hv' hr ih =>
    intro k e
    rw [putV_cons hn]
    rcases two_beq e with ⟨h1, e2⟩ | ⟨h1, e2⟩
    · rw [if_pos ((EntK.eq (σ := σ) ⟨hb, ha, hz'⟩ hz).1 h1)]
      exact ⟨_, e2, .cons hb ha (by rw [h1.1]; exact hz.2.2) hkv hv hr⟩
    · rw [if_neg (fun e3 => h1 ((EntK.eq (σ := σ) ⟨hb, ha, hz'⟩ hz).2 e3))]
      obtain ⟨l', e3, h3⟩ := ih (nodup_tail hn) e2
      exact ⟨_, e3, .cons hb ha hz' hk' hv' h3⟩
theorem upMS_t {σ : Sg} {l : V} {ml : List (ByteArray × Value)} (h : RelMS σ l ml) {a b : Nat} {z : ByteArray} (hz : a = strNum z.data.toList ∧ b = z.size) {kv v : V} {val : Value} (hkv : Rel σ kv (.string z)) (hv : Rel σ v val) (hn : (ml.map (·.1)).Nodup) : ∀ {k : V → Bool}, upK l a b kv v k = true → ∃ l', k l' = true ∧ RelMS σ l' (putV ml z val) := by
  induction h with
  | nil => intro k e; exact ⟨_, e, .cons hz.1 hz.2 hkv hv .nil⟩
  | cons ha hb hk' hv' hr ih =>
    intro k e
    rw [putV_cons hn]
    rcases two_beq e with ⟨h1, e2⟩ | ⟨h1, e2⟩
    · have he := (strK_eq ha hb hz.1 hz.2).1 h1
      rw [if_pos he]
      exact ⟨_, e2, .cons (by rw [h1.1]; exact hz.1) (by rw [h1.2]; exact hz.2) hkv hv hr⟩
    · rw [if_neg (fun e3 => h1 ((strK_eq ha hb hz.1 hz.2).2 e3))]
      obtain ⟨l', e3, h3⟩ := ih (nodup_tail hn) e2
      exact ⟨_, e3, .cons ha hb hk' hv' h3⟩
theorem delM_t {σ : Sg} {q : IntKind} {l : V} {ml : List (Int × Value)} (h : RelM σ q l ml) {a b : Nat} {z : Int} (hz : EntK σ q a b z) (hn : (ml.map (·.1)).Nodup) : ∀ {k : V → Bool}, delK l a b k = true → ∃ l', k l' = true ∧ RelM σ q l' (delV ml z) := by
  induction h with
  | nil => intro k e; exact ⟨_, e, .nil⟩
  | cons hb ha hz' hk' hv' hr ih =>
    intro k e
    rw [delV_cons hn]
    rcases two_beq e with ⟨h1, e2⟩ | ⟨h1, e2⟩
    · rw [if_pos ((EntK.eq (σ := σ) ⟨hb, ha, hz'⟩ hz).1 h1)]
      exact ⟨_, e2, hr⟩
    · rw [if_neg (fun e3 => h1 ((EntK.eq (σ := σ) ⟨hb, ha, hz'⟩ hz).2 e3))]
      obtain ⟨l', e3, h3⟩ := ih (nodup_tail hn) e2
      exact ⟨_, e3, .cons hb ha hz' hk' hv' h3⟩
theorem delMS_t {σ : Sg} {l : V} {ml : List (ByteArray × Value)} (h : RelMS σ l ml) {a b : Nat} {z : ByteArray} (hz : a = strNum z.data.toList ∧ b = z.size) (hn : (ml.map (·.1)).Nodup) : ∀ {k : V → Bool}, delK l a b k = true → ∃ l', k l' = true ∧ RelMS σ l' (delV ml z) := by
  induction h with
  | nil => intro k e; exact ⟨_, e, .nil⟩
  | cons ha hb hk' hv' hr ih =>
    intro k e
    rw [delV_cons hn]
    rcases two_beq e with ⟨h1, e2⟩ | ⟨h1, e2⟩
    · rw [if_pos ((strK_eq ha hb hz.1 hz.2).1 h1)]
      exact ⟨_, e2, hr⟩
    · rw [if_neg (fun e3 => h1 ((strK_eq ha hb hz.1 hz.2).2 e3))]
      obtain ⟨l', e3, h3⟩ := ih (nodup_tail hn) e2
      exact ⟨_, e3, .cons ha hb hk' hv' h3⟩
end
end Go.Rc
namespace Go.Rc
open Go Go.Sym
section
variable {P : Program} {n : Nat} {x y z : Operand} {g gx gy gz : G} {t yt : TypeId}
theorem onKey_t {e : Nat} {v : V} {k : Nat → Nat → Bool} (h : onKey e v k = true) : (∃ a d p l r, v = .c 1 a e d p l r ∧ k a e = true) ∨ (∃ a b d p l r, v = .c 6 a b d p l r ∧ e = 8 ∧ k a b = true) := by
  obtain ⟨tg, a, b, d, p, l, r, hv, h1⟩ := onC_t h
  rcases bi_t h1 with ⟨h2, h3⟩ | ⟨h2, h3⟩
  · obtain ⟨h4, h5⟩ := bi_f h3
    rw [beq_t h2, beq_t h4] at hv
    rw [beq_t h4] at h5
    exact .inl ⟨a, d, p, l, r, hv, h5⟩
  · obtain ⟨h4, h5⟩ := bi_f h3
    obtain ⟨h6, h7⟩ := bi_f h5
    rw [beq_t h4] at hv
    exact .inr ⟨a, b, d, p, l, r, hv, beq_t h6, h7⟩
theorem onMap_t {ke : Nat} {v : V} {h : Hp} {k : Pos → V → Bool} (e : onMap ke v h k = true) : ∃ a b d p l r q m, v = .c 5 a b d p l r ∧ h.t.at p = .o 3 ke q m ∧ k p m = true := by
  obtain ⟨tg, a, b, d, p, l, r, hv, e1⟩ := onC_t e
  obtain ⟨h1, e2⟩ := bi_f e1
  obtain ⟨t2, e2', q, m, hat, e3⟩ := onO_t (hget_t e2)
  obtain ⟨h2, e4⟩ := bi_f e3
  obtain ⟨h3, e5⟩ := bi_f e4
  rw [beq_t h1] at hv
  rw [beq_t h2, beq_t h3] at hat
  exact ⟨a, b, d, p, l, r, q, m, hv, hat, e5⟩
/-- the kinds of keys fit -/
def KeyFit (P : Program) (kt : TypeId) (ke : Nat) : Prop := (∃ q, P.underlying kt = some (.int q) ∧ ke = kc q) ∨ (P.underlying kt = some .string ∧ ke = 8)
theorem key_data {σ : Sg} {kt : TypeId} {ke : Nat} (hf : KeyFit P kt ke) {es : Array MapEntry} {clock : Nat} {l : V}
    (hm : (∃ (q : IntKind) (ml : List (Int × Value)), ke = kc q ∧ MapOf (Value.int q) ml es clock ∧ RelM σ q l ml) ∨ (∃ ml : List (ByteArray × Value), ke = 8 ∧ MapOf Value.string ml es clock ∧ RelMS σ l ml))
    {kv : V} {key : Value} (hk : Rel σ kv key) {c : Nat → Nat → Bool} (e : onKey ke kv c = true) :
    ∃ (K : Type) (dk : DecidableEq K) (enc : K → Value) (ml : List (K × Value)) (kk : K) (na nb : Nat), key = enc kk ∧ KeyLaw P kt enc ∧ MapOf enc ml es clock ∧ c na nb = true ∧
      (∀ k f, lookK l na nb k f = true → (∃ v val, lookV ml kk = some val ∧ Rel σ v val ∧ k v = true) ∨ (lookV ml kk = none ∧ f = true)) ∧
      (∀ k v val, Rel σ v val → upK l na nb kv v k = true → ∃ l', k l' = true ∧ ∀ es' c' gh, MapOf enc (putV ml kk val) es' c' → OOk P σ gh (.o 3 ke .h l') (.map es' c')) ∧
      (∀ k, delK l na nb k = true → ∃ l', k l' = true ∧ ∀ es' c' gh, MapOf enc (delV ml kk) es' c' → OOk P σ gh (.o 3 ke .h l') (.map es' c')) := by
  rcases hf with ⟨q, hq, rfl⟩ | ⟨hq, rfl⟩
  · rcases hm with ⟨q', ml, h1, hM, hR⟩ | ⟨ml, h1, _⟩
    · obtain rfl := kc_inj h1
      rcases onKey_t e with ⟨a, d, p, _, _, hv, e2⟩ | ⟨_, _, _, _, _, _, _, h8, _⟩
      · have hk' := hk
        rw [hv] at hk'
        obtain ⟨q2, hkey, hq2, ha⟩ := hk'.c1
        obtain rfl := kc_inj hq2
        have hz : EntK σ q a (kc q) (q.wrap a) := ⟨rfl, ha, rfl⟩
        rw [hkey] at hk
        refine ⟨Int, inferInstance, Value.int q, ml, q.wrap a, a, kc q, hkey, keyLaw_int hq, hM, e2, fun k f => lookM_t hR hz, fun k v val hv2 e3 => ?_, fun k e3 => ?_⟩
        · obtain ⟨l', e4, h4⟩ := upM_t hR hz hk hv2 hM.keys e3
          exact ⟨l', e4, fun es' c' gh hM' => .mapI rfl hM' h4 (.inl rfl)⟩
        · obtain ⟨l', e4, h4⟩ := delM_t hR hz hM.keys e3
          exact ⟨l', e4, fun es' c' gh hM' => .mapI rfl hM' h4 (.inl rfl)⟩
      · exact absurd h8 (kc_lt q)
    · exact absurd h1 (kc_lt q)
  · rcases hm with ⟨q', ml, h1, _⟩ | ⟨ml, _, hM, hR⟩
    · exact absurd h1.symm (kc_lt q')
    · rcases onKey_t e with ⟨a, d, p, _, _, hv, e2⟩ | ⟨a, b, d, p, _, _, hv, _, e2⟩
      · rw [hv] at hk
        obtain ⟨q2, hkey, hq2, ha⟩ := hk.c1
        exact absurd hq2.symm (kc_lt q2)
      · have hk' := hk
        rw [hv] at hk'
        obtain ⟨s, hkey, ha, hb⟩ := hk'.c6
        rw [hkey] at hk
        refine ⟨ByteArray, inferInstance, Value.string, ml, s, a, b, hkey, keyLaw_str hq, hM, e2, fun k f => lookMS_t hR ⟨ha, hb⟩, fun k v val hv2 e3 => ?_, fun k e3 => ?_⟩
        · obtain ⟨l', e4, h4⟩ := upMS_t hR ⟨ha, hb⟩ hk hv2 hM.keys e3
          exact ⟨l', e4, fun es' c' gh hM' => .mapS rfl hM' h4 (.inl rfl)⟩
        · obtain ⟨l', e4, h4⟩ := delMS_t hR ⟨ha, hb⟩ hM.keys e3
          exact ⟨l', e4, fun es' c' gh hM' => .mapS rfl hM' h4 (.inl rfl)⟩
theorem hasK_of {K : Type} [DecidableEq K] {ml : List (K × Value)} {k : K} : Go.Sym.hasK ml k = (lookV ml k).isSome := (lookV_isSome ml k).symm
theorem lk_ok {kt et : TypeId} {ke : Nat} (ht : P.underlying t = some (.map kt et)) (hf : KeyFit P kt ke) (hx : GOk n x gx) (hy : GOk n y gy) {z0 : Value} {zv : V} (hz : zeroVal P et = some z0) (hzv : ∀ σ, Rel σ zv z0) :
    ∃ val, (∀ fr k, gx fr k = true → k (val fr) = true) ∧ QOk P n (.lookup t x y false) (opLk ke zv gx gy) (valRn val) ∧ QOk P n (.lookup t x y true) (opLkOk ke zv gx gy) (valRn val) := by
  obtain ⟨val, x1, x2⟩ := hx.ex
  obtain ⟨vy, y1, y2⟩ := hy.ex
  refine ⟨val, x1, ⟨fun cf rb fr h k E R σ a w e0 hfr H => ?_⟩, ⟨fun cf rb fr h k E R σ a w e0 hfr H => ?_⟩⟩
  · have hr := x2 σ fr a hfr
    obtain ⟨_, _, _, p, _, _, q, m, hv, hat, e1⟩ := onMap_t (x1 _ _ e0)
    rw [hv] at hr
    obtain ⟨bb, c, hxv, hs⟩ := hr.c5
    obtain ⟨b1, c1, es, clock, hl1, hs1, hw1, hm⟩ := H.map hat
    rw [hs] at hs1; injection hs1 with hs1; injection hs1 with hs1 _
    subst hs1
    obtain ⟨K, dk, enc, ml, kk, na, nb, hkey, KL, hM, e2, hlook, _, _⟩ := key_data hf hm (y2 σ fr a hfr) (y1 _ _ e1)
    have fin : ∀ w' (op : Oper), op.op = .lookup t x y false → ReadsSame (valRn val) σ fr h w w' → (execOp a.eval op).run P w' = .ok (.value ((lookV ml kk).getD z0)) w' := fun w' op ho hsame => by
      have hread : w'.heap[bb]? = some (.map es clock) := by rw [hsame p bb c ⟨_, _, _, _, _, _, hv⟩ hl1 hs]; exact hw1
      have := run_look (P := P) (k := kk) false hread hM KL ⟨ht⟩ hz
      simp only [execOp, ho, hxv, hkey]
      rw [Sem.run_bind, this]; rfl
    rcases hlook _ _ e2 with ⟨v, vl, h1, h2, e3⟩ | ⟨h1, e3⟩
    · rw [h1] at fin; exact ⟨v, vl, e3, h2, fin⟩
    · rw [h1] at fin; exact ⟨zv, z0, e3, hzv σ, fin⟩
  · have hr := x2 σ fr a hfr
    obtain ⟨_, _, _, p, _, _, q, m, hv, hat, e1⟩ := onMap_t (x1 _ _ e0)
    rw [hv] at hr
    obtain ⟨bb, c, hxv, hs⟩ := hr.c5
    obtain ⟨b1, c1, es, clock, hl1, hs1, hw1, hm⟩ := H.map hat
    rw [hs] at hs1; injection hs1 with hs1; injection hs1 with hs1 _
    subst hs1
    obtain ⟨K, dk, enc, ml, kk, na, nb, hkey, KL, hM, e2, hlook, _, _⟩ := key_data hf hm (y2 σ fr a hfr) (y1 _ _ e1)
    have fin : ∀ w' (op : Oper), op.op = .lookup t x y true → ReadsSame (valRn val) σ fr h w w' → (execOp a.eval op).run P w' = .ok (.value (.tuple #[(lookV ml kk).getD z0, .bool (lookV ml kk).isSome])) w' := fun w' op ho hsame => by
      have hread : w'.heap[bb]? = some (.map es clock) := by rw [hsame p bb c ⟨_, _, _, _, _, _, hv⟩ hl1 hs]; exact hw1
      have := run_look (P := P) (k := kk) true hread hM KL ⟨ht⟩ hz
      rw [hasK_of] at this
      simp only [execOp, ho, hxv, hkey]
      rw [Sem.run_bind, this]; rfl
    rcases hlook _ _ e2 with ⟨v, vl, h1, h2, e3⟩ | ⟨h1, e3⟩
    · rw [h1] at fin; exact ⟨_, _, e3, .tup (vl := [vl, .bool true]) (.cons h2 (.cons (.tt σ) .nil)), fin⟩
    · rw [h1] at fin; exact ⟨_, _, e3, .tup (vl := [z0, .bool false]) (.cons (hzv σ) (.cons (.ff σ) .nil)), fin⟩
/-! stores into maps -/
theorem run_mapUpdate {K : Type} [dk : DecidableEq K] {enc : K → Value} {l : List (K × Value)} {es : Array MapEntry} {clock m : Nat} {k : K} {v : Value} {kt et : TypeId} {w : World} (hb : w.heap[m]? = some (.map es clock)) (hM : MapOf enc l es clock) (KL : KeyLaw P kt enc) (ht : P.underlying t = some (.map kt et)) :
    ∃ es' c', (Instr.mapUpdate t (.map (some m)) (enc k) v).run P w = .ok () { w with heap := w.heap.setIfInBounds m (.map es' c') } ∧ MapOf enc (putV l k v) es' c' := by
  have hg : (getObj m).run P w = .ok (.map es clock) w := by simp [getObj, Sem.run, hb]
  have hset : ∀ o', (setObj m o').run P w = .ok () { w with heap := w.heap.setIfInBounds m o' } := fun o' => run_setObj hb (by simp)
  cases hi : (l.map (·.1)).idxOf? k with
  | some i =>
    have hil : i < es.size := by
      have h1 := (List.getElem?_eq_some_iff.1 (idxOf?_some hi)).1
      rw [hM.size]; simpa using h1
    have hkey : es[i].key = enc k := by
      have h1 := congrArg (fun x => x[i]?) hM.keyMap
      simp only [List.getElem?_map] at h1
      have h2 := idxOf?_some hi
      rw [List.getElem?_map] at h2
      obtain ⟨p, hp, hpk⟩ := Option.map_eq_some_iff.1 h2
      simp [hil, hp, hpk] at h1
      exact h1
    refine ⟨_, _, ?_, mapOf_put hM (v := v) hi⟩
    simp only [Instr.mapUpdate, Sem.run_bind, run_underlying ht, Result.andThen_ok, hg, KL.check, hM.find KL, hi, Option.bind_some]
    simp [hil, Instr.keyThatStays, hkey, KL.bits, hset]
  | none =>
    refine ⟨_, _, ?_, mapOf_push hM (v := v) hi⟩
    simp only [Instr.mapUpdate, Sem.run_bind, run_underlying ht, Result.andThen_ok, hg, KL.check, hM.find KL, hi, Option.bind_none]
    simp [hset]
theorem run_delete {K : Type} [dk : DecidableEq K] {enc : K → Value} {l : List (K × Value)} {es : Array MapEntry} {clock m : Nat} {k : K} {kt et tk ty : TypeId} {w : World} (hb : w.heap[m]? = some (.map es clock)) (hM : MapOf enc l es clock) (KL : KeyLaw P kt enc) (ht : P.underlying t = some (.map kt et)) :
    ∃ es' c', (Builtin.delete_ #[t, tk] ty #[.map (some m), enc k]).run P w = .ok (.tuple #[]) { w with heap := w.heap.setIfInBounds m (.map es' c') } ∧ MapOf enc (delV l k) es' c' := by
  have hg : (getObj m).run P w = .ok (.map es clock) w := by simp [getObj, Sem.run, hb]
  have hset : ∀ o', (setObj m o').run P w = .ok () { w with heap := w.heap.setIfInBounds m o' } := fun o' => run_setObj hb (by simp)
  cases hi : (l.map (·.1)).idxOf? k with
  | some i =>
    have hil : i < es.size := by
      have h1 := (List.getElem?_eq_some_iff.1 (idxOf?_some hi)).1
      rw [hM.size]; simpa using h1
    refine ⟨es.eraseIdxIfInBounds i, clock, ?_, mapOf_del hM hi⟩
    simp [Builtin.delete_, run_underlying ht, hg, KL.check, hM.find KL, hi, hil, hset]
  | none =>
    refine ⟨es, clock, ?_, by rw [mapOf_del_none hM hi]; exact hM⟩
    simp [Builtin.delete_, run_underlying ht, hg, KL.check, hM.find KL, hi, hset]
theorem heap_set {w : World} {b : Nat} {o o' : Obj} (h : w.heap[b]? = some o) : (w.heap.setIfInBounds b o')[b]? = some o' ∧ ∀ j, j ≠ b → (w.heap.setIfInBounds b o')[j]? = w.heap[j]? := by
  have hlt := (Array.getElem?_eq_some_iff.1 h).1
  exact ⟨by simp [hlt], fun j hj => by simp [Array.getElem?_setIfInBounds_ne (Ne.symm hj)]⟩
theorem mup_ok {kt et : TypeId} {ke : Nat} (ht : P.underlying t = some (.map kt et)) (hf : KeyFit P kt ke) (hx : GOk n x gx) (hy : GOk n y gy) (hz : GOk n z gz) : WOk P n (.mapUpdate t x y z) (opMup ke gx gy gz) ∧ WOk P n (.insert t x y z) (opMup ke gx gy gz) := by
  obtain ⟨vx, x1, x2⟩ := hx.ex
  obtain ⟨vy, y1, y2⟩ := hy.ex
  obtain ⟨vz, z1, z2⟩ := hz.ex
  have key : ∀ cf rb fr h k E R σ a w, opMup ke gx gy gz cf rb fr h k = true → FrOk σ n fr a → HR P E R σ h w → ∃ w', (Instr.mapUpdate t (a.eval x) (a.eval y) (a.eval z)).run P w = .ok () w' ∧ Good P E R σ h w k undef w' := fun cf rb fr h k E R σ a w e0 hfr H => by
    have hr := x2 σ fr a hfr
    obtain ⟨_, _, _, p, _, _, q, m, hv, hat, e1⟩ := onMap_t (x1 _ _ e0)
    rw [hv] at hr
    obtain ⟨bb, c, hxv, hs⟩ := hr.c5
    obtain ⟨b1, c1, es, clock, hl1, hs1, hw1, hm⟩ := H.map hat
    rw [hs] at hs1; injection hs1 with hs1; injection hs1 with hs1 _
    subst hs1
    have e1' := y1 _ _ e1
    obtain ⟨K, dk, enc, ml, kk, na, nb, hkey, KL, hM, e2, _, hup, _⟩ := key_data hf hm (y2 σ fr a hfr) e1'
    have e2' := z1 _ _ e2
    obtain ⟨l', e3, hO⟩ := hup _ _ _ (z2 σ fr a hfr) e2'
    obtain ⟨es', c', hrun, hM'⟩ := run_mapUpdate (P := P) (t := t) (k := kk) (v := a.eval z) hw1 hM KL ht
    rw [hput_eq] at e3
    obtain ⟨h1, h2⟩ := heap_set (o' := .map es' c') hw1
    rw [hxv, hkey]
    exact ⟨_, hrun, _, σ, _, e3, .undef σ, .put H hl1 hs h1 h2 rfl (.inr (hO es' c' _ hM'))⟩
  refine ⟨⟨fun cf rb fr h k E R σ a w o ho _ _ e hf H => ?_⟩, ⟨fun cf rb fr h k E R σ a w o ho _ _ e hf H => ?_⟩⟩
  all_goals
    obtain ⟨w', hrun, hg⟩ := key cf rb fr h k E R σ a w e hf H
    refine .inr (.inl ⟨w', ?_, hg⟩)
    simp only [execOp, ho]
    rw [Sem.run_bind, hrun]; rfl
theorem del_ok {kt et tk : TypeId} {ke : Nat} (ht : P.underlying t = some (.map kt et)) (hf : KeyFit P kt ke) (hx : GOk n x gx) (hy : GOk n y gy) : WOk P n (.call ⟨.builtin .delete, #[x, y], #[t, tk]⟩) (opDel ke gx gy) := ⟨fun cf rb fr h k E R σ a w o ho _ _ e0 hfr H => by
  obtain ⟨vx, x1, x2⟩ := hx.ex
  obtain ⟨vy, y1, y2⟩ := hy.ex
  have hr := x2 σ fr a hfr
  obtain ⟨_, _, _, p, _, _, q, m, hv, hat, e1⟩ := onMap_t (x1 _ _ e0)
  rw [hv] at hr
  obtain ⟨bb, c, hxv, hs⟩ := hr.c5
  obtain ⟨b1, c1, es, clock, hl1, hs1, hw1, hm⟩ := H.map hat
  rw [hs] at hs1; injection hs1 with hs1; injection hs1 with hs1 _
  subst hs1
  have e1' := y1 _ _ e1
  obtain ⟨K, dk, enc, ml, kk, na, nb, hkey, KL, hM, e2, _, _, hdel⟩ := key_data hf hm (y2 σ fr a hfr) e1'
  obtain ⟨l', e3, hO⟩ := hdel _ e2
  obtain ⟨es', c', hrun, hM'⟩ := run_delete (P := P) (t := t) (tk := tk) (ty := o.type) (k := kk) hw1 hM KL ht
  rw [hput_eq] at e3
  obtain ⟨h1, h2⟩ := heap_set (o' := .map es' c') hw1
  refine .inl ⟨_, { w with heap := w.heap.setIfInBounds bb (.map es' c') }, ?_, _, σ, _, e3, .undef σ, .put H hl1 hs h1 h2 rfl (.inr (hO es' c' _ hM'))⟩
  simp [execOp, ho, resolve, hxv, hkey, invoke, builtin, hrun]
  rfl⟩
end
end Go.Rc
namespace Go.Rc
open Go Go.Sym
section
variable {P : Program} {n : Nat} {x y z : Operand} {g gx gy gz : G} {t yt : TypeId}
/-- a new block, and what is said of it -/
theorem good_new {E : Env} {R : List Blk} {σ : Sg} {h : Hp} {w w0 : World} {k : K1} {ao : AO} {ob : Obj} {gh : Gh} {val : Pos → V} {x : Value} (H : HR P E R σ h w) (hw : w0.heap = w.heap) (he : (w0.os, w0.output) = (w.os, w.output)) (e : hnew h ao (fun p h' => k (val p) h') = true)
    (ho : OOk P (upS σ h.nx (w.heap.size, gh)) gh ao ob) (hx : Rel (upS σ h.nx (w.heap.size, gh)) (val h.nx) x) : Good P E R σ h w k x (w0.alloc ob) := by
  rw [hnew_eq] at e
  have s1 := Step.world H hw he
  have s2 := Step.alloc (c := gh) (ao := ao) (ob := ob) s1.hr (by rw [hw]; exact ho)
  rw [hw] at s2
  exact ⟨_, _, _, e, hx, s1.trans s2⟩
theorem upS_ptr (σ : Sg) (p : Pos) (b : Nat) (gh : Gh) (o : Nat) : Rel (upS σ p (b, gh)) (vPtr p o) (.pointer (some ⟨b, o, none⟩)) := .ptr (upS_self _ _ _)
theorem alloc_ok {c : List Value} {zv : V} (hz : zeroOf P t = some c) (hzv : ∀ σ, RelL σ zv c) : WOk P n (.alloc t) (opAlloc zv t) := ⟨fun cf rb fr h k E R σ a w o ho _ _ e hf H => by
  obtain ⟨v, hv, hc⟩ := run_zeroT (P := P) (w := w) hz
  refine .inl ⟨.pointer (some ⟨w.heap.size, 0, none⟩), w.alloc (.cells c.toArray t), ?_, good_new (gh := .c 0) (val := fun p => vPtr p 0) H rfl rfl e (.cells (hzv _)) (upS_ptr _ _ _ _ _)⟩
  simp only [execOp, ho, Instr.alloc, Sem.run_bind, hv, Result.andThen_ok, newVar, newRow, newObj, hc]
  rfl⟩
theorem box_ok (hx : GOk n x g) : WOk P n (.box t x) (opBox t g) := ⟨fun cf rb fr h k E R σ a w o ho _ _ e hf H => by
  obtain ⟨val, h1, h2⟩ := hx.ex
  have e1 := h1 _ _ e
  obtain ⟨l, e2, h3⟩ := cellsK_t e1
  obtain ⟨xl, hxl, hc⟩ := h3 σ _ (h2 σ fr a hf)
  refine .inl ⟨.pointer (some ⟨w.heap.size, 0, none⟩), w.alloc (.cells xl.toArray t), ?_, good_new (gh := .c 0) (val := fun p => vPtr p 0) H rfl rfl e2 (.cells (hxl.mono (H.ext _))) (upS_ptr _ _ _ _ _)⟩
  simp only [execOp, ho, Instr.box, Sem.run_bind, newVar, newRow, newObj, hc]
  rfl⟩
theorem app_mk : ∀ (l m : List Value), App l m (l ++ m)
  | [], m => .nil
  | v :: l, m => .cons (app_mk l m)
inductive QsOk (n s : Nat) : List (Nat × Operand) → (T → (V → Bool) → Bool) → Prop
  | nil : QsOk n s [] qNil
  | cons {i x g l r} (hx : GOk n x g) (h : QsOk n s l r) : QsOk n s ((i, x) :: l) (qCons s g r)
theorem QsOk.run {s : Nat} {ps : List (Nat × Operand)} {b : T → (V → Bool) → Bool} (hb : QsOk n s ps b) : ∀ {fr : T} {k : V → Bool}, b fr k = true → ∃ q, k q = true ∧ ∀ σ a i, FrOk σ n fr a → (∀ j p, ps[j]? = some p → p.1 = i + j) → ∃ c, RelL σ q c ∧ SeqP s i (ps.map fun p => (p.1, a.eval p.2)) c := by
  induction hb with
  | nil => intro fr k e; exact ⟨.n, e, fun σ a i _ _ => ⟨[], .nil, .nil⟩⟩
  | cons hx _ ih =>
    intro fr k e
    obtain ⟨val, h1, h2⟩ := hx.ex
    have e1 := h1 _ _ e
    obtain ⟨cl, e2, h3⟩ := cellsK_t e1
    obtain ⟨m', e3, h4⟩ := lenK_t e2
    obtain ⟨h5, e4⟩ := bi_f e3
    have h5 := beq_t h5
    obtain ⟨q, e5, h6⟩ := ih e4
    obtain ⟨q', e6, h7⟩ := appK_t e5
    refine ⟨q', e6, fun σ a i hf hi => ?_⟩
    obtain ⟨xl, hxl, hcells⟩ := h3 σ _ (h2 σ fr a hf)
    obtain ⟨c, hc, hseq⟩ := h6 σ a (i + 1) hf (fun j p hp => by have := hi (j + 1) p (by simpa using hp); omega)
    refine ⟨xl ++ c, h7 σ xl c hxl hc, ?_⟩
    have h0 := hi 0 _ rfl
    simp only [List.map_cons]
    simp only at h0
    rw [show (i + 0 = i) from rfl] at h0
    subst h0
    exact .cons hcells (by have := h4 σ xl hxl; omega) hseq (app_mk _ _)
theorem run_buildSlice {et : TypeId} {len s : Nat} {ag : Bool} {z : Value} {vs : List (Nat × Value)} {c : List Value} {w : World} (hu : P.underlying t = some (.slice et)) (hT : tyOf P et = some (ag, s)) (hz : zeroVal P et = some z) (hq : SeqP s 0 vs c) (hlen : vs.length = len) (hsm : len * s ≤ 16777216) :
    (Instr.buildSlice t len vs.toArray).run P w = .ok (.slice (some ⟨w.heap.size, 0, none⟩) len len) (w.alloc (.cells c.toArray et)) := by
  have e1 : (2 : Nat) ^ 24 = 16777216 := by decide
  unfold Instr.buildSlice
  simp only [Sem.run_bind, run_underlying hu, Result.andThen_ok, run_sizeT hT]
  rw [if_neg (by omega)]
  have key : ∀ zz : Array Value, Instr.fill (fun i => some (i * s, s)) ((Array.range (len * s)).map (zz[· % zz.size]!)) vs = some c.toArray := by
    intro zz
    have := fill_seq hq ((Array.range (len * s)).map (zz[· % zz.size]!)).toList (by simp [hlen])
    rw [Array.toArray_toList] at this
    rw [this]; simp
  have hfin : ∀ (st : Sem Value) (zz : Array Value), (match Instr.fill (fun i => some (i * s, s)) ((Array.range (len * s)).map (zz[· % zz.size]!)) vs with
      | some cells => do pure (Value.slice (some (← newRow et cells)) len len)
      | _ => st : Sem Value).run P w = .ok (.slice (some ⟨w.heap.size, 0, none⟩) len len) (w.alloc (.cells c.toArray et)) := by
    intro st zz
    rw [key zz]
    simp only [newRow, newObj]
    rfl
  by_cases h0 : len * s = 0
  · rw [if_pos h0, Sem.run_bind, Sem.run_pure, Result.andThen_ok]
    exact hfin _ #[]
  · rw [if_neg h0, Sem.run_bind, run_zeroV hz, Result.andThen_ok, Sem.run_bind, Sem.run_pure, Result.andThen_ok]
    exact hfin _ z.cells
theorem bsl_ok {et : TypeId} {len s : Nat} {ag : Bool} {zz : Value} {ps : List (Nat × Operand)} {b : T → (V → Bool) → Bool} (hu : P.underlying t = some (.slice et)) (hT : tyOf P et = some (ag, s)) (hz : zeroVal P et = some zz) (hb : QsOk n s ps b) (hi : ∀ (j : Nat) (p : Nat × Operand), ps[j]? = some p → p.1 = j) (hlen : ps.length = len) (hsm : len * s ≤ 16777216) :
    WOk P n (.buildSlice t len ps.toArray) (opBsl et len b) := ⟨fun cf rb fr h k E R σ a w o ho _ _ e hf H => by
  obtain ⟨q, e2, h1⟩ := hb.run e
  obtain ⟨c, hc, hseq⟩ := h1 σ a 0 hf (fun j p hp => by rw [hi j p hp]; omega)
  refine .inl ⟨.slice (some ⟨w.heap.size, 0, none⟩) len len, w.alloc (.cells c.toArray et), ?_, good_new (gh := .c 0) (val := fun p => vSl p 0 len (Nat.succ len)) H rfl rfl e2 (.cells (hc.mono (H.ext _))) (.sl (upS_self _ _ _) (Nat.le_refl _) (.inl rfl))⟩
  have e3 : (ps.toArray.map fun (i, x) => (i, a.eval x)) = (ps.map fun p => (p.1, a.eval p.2)).toArray := by simp
  simp only [execOp, ho, e3]
  rw [Sem.run_bind, run_buildSlice hu hT hz hseq (by simpa using hlen) hsm]
  rfl⟩
/-- an operation that lays one block, which hangs on the frame alone -/
structure AOk (P : Program) (n : Nat) (op : Op) (f : OpF) : Prop where
  ok : ∀ cf rb fr h k, f cf rb fr h k = true → ∃ (ao : AO) (val : Pos → V), hnew h ao (fun p h' => k (val p) h') = true ∧ ∀ σ a, FrOk σ n fr a → ∃ (ob : Obj) (gh : Gh) (x : Nat → Value),
    (∀ w (o : Oper), o.op = op → (execOp a.eval o).run P w = .ok (.value (x w.heap.size)) (w.alloc ob)) ∧ ∀ τ p b, Ext σ τ → τ p = some (b, gh) → OOk P τ gh ao ob ∧ Rel τ (val p) (x b)
theorem alloc_aok {c : List Value} {zv : V} (hz : zeroOf P t = some c) (hzv : ∀ σ, RelL σ zv c) : AOk P n (.alloc t) (opAlloc zv t) := ⟨fun cf rb fr h k e => by
  refine ⟨_, _, e, fun σ a hf => ⟨.cells c.toArray t (0, 0), .c 0, fun b => .pointer (some ⟨b, 0, none⟩), fun w o ho => ?_, fun τ p b _ hp => ⟨.cells (hzv _), .ptr hp⟩⟩⟩
  obtain ⟨v, hv, hc⟩ := run_zeroT (P := P) (w := w) hz
  simp only [execOp, ho, Instr.alloc, Sem.run_bind, hv, Result.andThen_ok, newVar, newRow, newObj, hc]
  rfl⟩
theorem box_aok (hx : GOk n x g) : AOk P n (.box t x) (opBox t g) := ⟨fun cf rb fr h k e => by
  obtain ⟨val, h1, h2⟩ := hx.ex
  have e1 := h1 _ _ e
  obtain ⟨l, e2, h3⟩ := cellsK_t e1
  refine ⟨_, _, e2, fun σ a hf => ?_⟩
  obtain ⟨xl, hxl, hc⟩ := h3 σ _ (h2 σ fr a hf)
  refine ⟨.cells xl.toArray t (0, 0), .c 0, fun b => .pointer (some ⟨b, 0, none⟩), fun w o ho => ?_, fun τ p b hs hp => ⟨.cells (hxl.mono hs), .ptr hp⟩⟩
  simp only [execOp, ho, Instr.box, Sem.run_bind, newVar, newRow, newObj, hc]
  rfl⟩
theorem bsl_aok {et : TypeId} {len s : Nat} {ag : Bool} {zz : Value} {ps : List (Nat × Operand)} {b : T → (V → Bool) → Bool} (hu : P.underlying t = some (.slice et)) (hT : tyOf P et = some (ag, s)) (hz : zeroVal P et = some zz) (hb : QsOk n s ps b) (hi : ∀ (j : Nat) (p : Nat × Operand), ps[j]? = some p → p.1 = j) (hlen : ps.length = len) (hsm : len * s ≤ 16777216) :
    AOk P n (.buildSlice t len ps.toArray) (opBsl et len b) := ⟨fun cf rb fr h k e => by
  obtain ⟨q, e2, h1⟩ := hb.run e
  refine ⟨_, _, e2, fun σ a hf => ?_⟩
  obtain ⟨c, hc, hseq⟩ := h1 σ a 0 hf (fun j p hp => by rw [hi j p hp]; omega)
  refine ⟨.cells c.toArray et (0, 0), .c 0, fun b => .slice (some ⟨b, 0, none⟩) len len, fun w o ho => ?_, fun τ p b hs hp => ⟨.cells (hc.mono hs), .sl hp (Nat.le_refl _) (.inl rfl)⟩⟩
  have e3 : (ps.toArray.map fun (i, x) => (i, a.eval x)) = (ps.map fun p => (p.1, a.eval p.2)).toArray := by simp
  simp only [execOp, ho, e3]
  rw [Sem.run_bind, run_buildSlice hu hT hz hseq (by simpa using hlen) hsm]
  rfl⟩
theorem mkm_ok {kt et : TypeId} {ke : Nat} (hf : KeyFit P kt ke) : WOk P n (.makeMap t none) (opMkm ke) := ⟨fun cf rb fr h k E R σ a w o ho _ _ e hfr H => by
  refine .inl ⟨.map (some w.heap.size), w.alloc (.map #[] 0), ?_, good_new (gh := .c 0) (val := vMap) H rfl rfl e ?_ (.map (upS_self _ _ _))⟩
  · simp only [execOp, ho, Instr.makeMap, Option.map, Sem.run_bind, newObj]
    rfl
  · rcases hf with ⟨q, _, rfl⟩ | ⟨_, rfl⟩
    · exact .mapI rfl MapOf.empty .nil (.inl rfl)
    · exact .mapS rfl MapOf.empty .nil (.inl rfl)⟩
theorem st_ok {ag : Bool} {m : Nat} (hT : tyOf P t = some (ag, m)) (hx : GOk n x gx) (hy : GOk n y gy) : WOk P n (.store t x y) (opSt m gx gy) := ⟨fun cf rb fr h k E R σ a w op ho _ _ e0 hf H => by
  obtain ⟨vx, x1, x2⟩ := hx.ex
  obtain ⟨vy, y1, y2⟩ := hy.ex
  have e1 := x1 _ _ e0
  have hr := x2 σ fr a hf
  obtain ⟨o, _, _, p, _, _, hv, e2⟩ := onPtr_t e1
  rw [hv] at hr
  obtain ⟨bb, c, hxv, hs⟩ := hr.c2
  have e3 := y1 _ _ e2
  obtain ⟨r, e4, h3⟩ := cellsK_t e3
  obtain ⟨e5, hone⟩ := allOne_t e4
  obtain ⟨m', e6, h4⟩ := lenK_t e5
  obtain ⟨h5, e7⟩ := bi_f e6
  have h5 := beq_t h5
  obtain ⟨ct, ce, cq, cl, hct, hat, e8⟩ := hcells_t e7
  obtain ⟨q, e9, hq⟩ := putK_t e8
  rw [hput_eq] at e9
  obtain ⟨xl, hxl, hcells⟩ := h3 σ _ (y2 σ fr a hf)
  have hm := h4 σ xl hxl
  obtain ⟨b1, c1, vl, junk, hl1, hs1, hw1, hrl, hc1, hc2⟩ := H.cells hct hat
  rw [hs] at hs1; injection hs1 with hs1; injection hs1 with hs1 hs2
  subst hs1 hs2
  obtain ⟨hle, hrq⟩ := hq σ vl xl hrl hxl
  have hset := setSub_mk o (vl ++ junk) xl (by simp; omega)
  have hlist : (vl ++ junk).take o ++ xl ++ (vl ++ junk).drop (o + xl.length) = (vl.take o ++ xl ++ vl.drop (o + xl.length)) ++ junk := by
    rw [List.take_append_of_le_length (by omega), List.drop_append_of_le_length (by omega)]; simp
  rw [hlist] at hset
  obtain ⟨w', hrun, hw1', hw2', hw3'⟩ := run_storeN (P := P) hT hw1 hcells (by omega) (fun u hu => hone σ xl hxl u hu) hset
  refine .inr (.inl ⟨w', ?_, _, σ, _, e9, .undef σ, .put H hl1 hs hw2' hw3' hw1' (.inr ?_)⟩)
  · simp [execOp, ho, hxv, Instr.storeAt, Instr.sureAddr, hrun]
  · rcases hct with rfl | rfl
    · obtain rfl := hc1 rfl
      simpa using OOk.cells hrq
    · obtain ⟨nn, ag', s', rfl, hT', hL⟩ := hc2 rfl
      exact .opn hrq hT' (by rw [← hL]; simp; omega)⟩
/-! ### append -/
theorem junk_ok {P : Program} {σ : Sg} {l : V} {xs : List Value} {et : TypeId} {ag : Bool} {s cap : Nat} {zc : Array Value} (hT : tyOf P et = some (ag, s)) (hl : RelL σ l xs) {m : Nat} (hx : xs.length = m * s) (hz : zc.size = s) (hc : m ≤ cap) {q : Pos} : OOk P σ (.c cap) (.o 2 et q l) (.cells (xs ++ (Builtin.zeroCells zc (cap - m)).toList).toArray et (0, 0)) := by
  refine .opn hl hT ?_
  simp only [List.length_append, Array.length_toList, zeroCells_len, hx, hz, ← Nat.add_mul]
  congr 1; omega
theorem app_ok {et : TypeId} {ag : Bool} {s by_ : Nat} {zl : List Value} (ht : P.underlying t = some (.slice et)) (hT : tyOf P et = some (ag, s)) (hby : bytesT P et = some by_) (hz : zeroOf P et = some zl) (hs1 : 1 ≤ s) (hzl : zl.length = s) (hx : GOk n x gx) (hy : GOk n y gy) :
    WOk P n (.call ⟨.builtin .append, #[x, y], #[t, t]⟩) (opApp et s by_ gx gy) := ⟨fun cf rb fr h k E R σ a w op ho _ _ e0 hf H => by
  obtain ⟨i, hi, hib⟩ := run_bytesT hby
  have hi2 : i.size = s ∧ ∃ zv, i.zero = some zv ∧ zv.cells = zl.toArray := by
    constructor
    · have h1 := run_sizeT (P := P) (w := w) hT
      simp [sizeOf, run_info hi] at h1
      exact h1
    · unfold zeroOf at hz
      cases hzz : i.zero with
      | none => simp [hi, hzz] at hz
      | some zv => simp [hi, hzz] at hz; exact ⟨zv, rfl, by rw [← hz]⟩
  obtain ⟨his, zv, hzv, hzc⟩ := hi2
  have hzs : zv.cells.size = s := by rw [hzc]; simpa using hzl
  obtain ⟨vx, x1, x2⟩ := hx.ex
  obtain ⟨vy, y1, y2⟩ := hy.ex
  have hrx := x2 σ fr a hf
  have hry := y2 σ fr a hf
  -- what is appended
  have hnews : ∃ m ys, (∃ c b2 o2, ((m = 0 ∧ a.eval y = .slice none 0 0) ∨ (a.eval y = .slice (some ⟨b2, o2, none⟩) m c ∧ ∃ vl, RelL σ ys vl ∧ vl.length = m * s ∧ ∀ (j : Nat) u, vl[j]? = some u → w.cell? ((⟨b2, o2, none⟩ : Addr).add j) = some u))) ∧
      (gx fr fun u => bi (Nat.beq m 0) (isNilV 1 u (k u h) (onSl u fun _ _ _ _ => k u h)) (allOne ys (
        isNilV 1 u (bi (Nat.ble (Nat.mul m by_) 16777216) (bi (Nat.ble m 16777216) (hnew h (.o 2 et .h ys) fun p h' => k (vSl p 0 m 0) h') false) false)
        (onSl u fun p o len cap1 => @Nat.rec (fun _ => Bool)
          (bi (Nat.beq o 0) (bi (Nat.ble (Nat.mul (Nat.add len m) by_) 16777216) (bi (Nat.ble (Nat.add len m) 16777216) (hcells h p fun t e' l => bi (Nat.beq t 2) (bi (Nat.beq et e') (subK l 0 (Nat.mul len s) fun xs => appK xs ys fun zs => hput h p .z fun h1 => hnew h1 (.o 2 et .h zs) fun q h' => fN (Nat.add len m) fun n' => k (vSl q 0 n' 0) h') false) false) false) false) false)
          (fun cap _ => bi (Nat.ble (Nat.add len m) cap) (hcells h p fun t e' l => bi (Nat.beq o 0) (bi (Nat.beq et e') (putK l (Nat.mul len s) ys fun l' => hput h p (.o t et .h l') fun h' => fN (Nat.add len m) fun n' => k (vSl p 0 n' cap1) h') false) false)
            (bi (Nat.ble (Nat.mul (Nat.add len m) by_) 16777216) (bi (Nat.ble (Nat.add len m) 16777216) (hcells h p fun _ _ l => subK l o (Nat.mul len s) fun xs => appK xs ys fun zs => hnew h (.o 2 et .h zs) fun q h' => fN (Nat.add len m) fun n' => k (vSl q 0 n' 0) h') false) false)) cap1)))) = true := by
    have e1 := y1 _ _ e0
    rcases isNil_t e1 with ⟨_, _, _, _, _, hv, e2⟩ | ⟨_, _, _, _, _, _, _, _, _, e2⟩
    · rw [hv] at hry
      have hyv : a.eval y = .slice none 0 0 := by simpa using hry.c3
      exact ⟨0, .n, ⟨0, 0, 0, .inl ⟨rfl, hyv⟩⟩, e2⟩
    · obtain ⟨o2, m, cap1, p2, _, _, hv, e3⟩ := onSl_t e2
      obtain ⟨ct, ce, cq, cl, hct, hat, e4⟩ := hcells_t e3
      obtain ⟨ys, e5, hq⟩ := subK_t e4
      rw [hv] at hry
      obtain ⟨b2, c2, cap2, hyv, hs2, _, _⟩ := hry.c4
      obtain ⟨b1, c1, vl, junk, _, hs1', hw1, hrl, _⟩ := H.cells hct hat
      rw [hs2] at hs1'; injection hs1' with hs1'; injection hs1' with hs1' _
      subst hs1'
      obtain ⟨hle, hrq⟩ := hq σ vl hrl
      have hle' : o2 + m * s ≤ vl.length := hle
      have hlq : ((vl.drop o2).take (m * s)).length = m * s := by simp; omega
      refine ⟨m, ys, ⟨cap2, b2, o2, .inr ⟨hyv, _, hrq, hlq, fun j u hj => ?_⟩⟩, e5⟩
      have hlt : j < m * s := by have := (List.getElem?_eq_some_iff.1 hj).1; rw [← hlq]; exact this
      have hj' : ((vl.drop o2).take (m * s))[j]? = some u := hj
      rw [List.getElem?_take_of_lt hlt, List.getElem?_drop] at hj'
      rw [add_none, cell_of hw1, List.getElem?_append_left (by omega)]
      exact hj'
  obtain ⟨m, ys, ⟨c2, b2, o2, hny⟩, e1⟩ := hnews
  have e2 := x1 _ _ e1
  -- the operation's run
  have run : ∀ {v : Value} {w' : World}, (Builtin.append_ #[t, t] op.type #[a.eval x, a.eval y]).run P w = .ok v w' → (execOp a.eval op).run P w = .ok (.value v) w' := fun {v w'} hr => by
    simp [execOp, ho, resolve, invoke, builtin, hr]
  rcases bi_t e2 with ⟨hm, e3⟩ | ⟨hm, e3⟩
  · -- nothing is appended
    have hm := beq_t hm
    subst hm
    have hlen0 : ∀ w : World, (Builtin.lenOf (a.eval y)).run P w = .ok 0 w := fun w => by
      rcases hny with ⟨_, hyv⟩ | ⟨hyv, _⟩ <;> simp [hyv, Builtin.lenOf]
    have hfc : ∀ w : World, (Builtin.firstCells s 0 (a.eval y)).run P w = .ok #[] w := fun w => by
      rcases hny with ⟨_, hyv⟩ | ⟨hyv, _⟩ <;> simp [hyv, Builtin.firstCells, loadCells, loadCellsFrom]
    have fin : ∀ {ad : Option Addr} {len cap : Nat}, a.eval x = .slice ad len cap → len ≤ cap → (Builtin.append_ #[t, t] op.type #[a.eval x, a.eval y]).run P w = .ok (.slice ad len cap) w := fun {ad len cap} hxv hle => by
      rw [hxv]
      cases ad <;> simp [Builtin.append_, run_underlying ht, run_sizeT hT, hlen0, hfc, hle, storeCells]
    rcases isNil_t e3 with ⟨_, _, _, _, _, hv, e4⟩ | ⟨_, _, _, _, _, _, _, _, _, e4⟩
    · have hr' := hrx
      rw [hv] at hrx
      have hxv : a.eval x = .slice none 0 0 := by simpa using hrx.c3
      exact .inl ⟨_, w, run (fin hxv (Nat.le_refl _)), _, σ, h, e4, hxv ▸ hr', .refl H⟩
    · obtain ⟨o, len, cap1, p, _, _, hv, e5⟩ := onSl_t e4
      have hr' := hrx
      rw [hv] at hrx
      obtain ⟨bb, c, cap, hxv, hs, hle, _⟩ := hrx.c4
      exact .inl ⟨_, w, run (fin hxv hle), _, σ, h, e5, hxv ▸ hr', .refl H⟩
  · have hm := beq_f hm
    rcases hny with ⟨h0, _⟩ | ⟨hyv, yl, hyl, hylen, hycell⟩
    · exact absurd h0 hm
    · obtain ⟨e4, hone⟩ := allOne_t e3
      have hone := hone σ yl hyl
      have hyl' : yl.length = m * i.size := by rw [his]; exact hylen
      rcases isNil_t e4 with ⟨_, _, _, _, _, hv, e5⟩ | ⟨_, _, _, _, _, _, _, _, _, e5⟩
      · -- onto nil
        rw [hv] at hrx
        have hxv : a.eval x = .slice none 0 0 := by simpa using hrx.c3
        obtain ⟨h1, e6⟩ := bi_f e5
        obtain ⟨h2, e7⟩ := bi_f e6
        have h1 : m * by_ ≤ 16777216 := ble_t h1
        have h2 : m ≤ 16777216 := ble_t h2
        have hrun := run_append_nil (P := P) w t op.type et i zv ht hi hzv ⟨b2, o2, none⟩ m c2 yl hyl' hycell (by omega) (by omega) (by rw [hib]; omega)
        have hge := grownCap_ge w m 0 et
        rw [← hxv, ← hyv] at hrun
        refine .inl ⟨_, _, run hrun, ?_⟩
        have e8 : yl.toArray ++ Builtin.zeroCells zv.cells (grownCap w m 0 et - m) = (yl ++ (Builtin.zeroCells zv.cells (grownCap w m 0 et - m)).toList).toArray := by
          apply Array.ext'; simp
        rw [e8]
        exact good_new (w0 := w.drew) (gh := .c (grownCap w m 0 et)) (val := fun p => vSl p 0 m 0) H rfl rfl e7 (junk_ok hT (hyl.mono (H.ext _)) hylen hzs hge) (.sl (upS_self _ _ _) hge (.inr ⟨rfl, fun _ => rfl⟩))
      · obtain ⟨o, len, cap1, p, _, _, hv, e6⟩ := onSl_t e5
        rw [hv] at hrx
        obtain ⟨bb, c, cap, hxv, hs, hle, hcap⟩ := hrx.c4
        -- growth into a new block
        have grow : ∀ {xl : V} {xs : List Value}, RelL σ xl xs → xs.length = len * s → (∀ j u, xs[j]? = some u → w.cell? ((⟨bb, o, none⟩ : Addr).add j) = some u) → cap < len + m → (len + m) * by_ ≤ 16777216 → len + m ≤ 16777216 →
            (execOp a.eval op).run P w = .ok (.value (.slice (some ⟨w.heap.size, 0, none⟩) (len + m) (grownCap w (len + m) cap et))) (w.drew.alloc (.cells ((xs ++ yl) ++ (Builtin.zeroCells zv.cells (grownCap w (len + m) cap et - (len + m))).toList).toArray et)) := fun {xl xs} _ hxlen hold hgt hb1 hb2 => by
          have hrun := run_append_grow (P := P) w t op.type et i zv ht hi hzv ⟨bb, o, none⟩ len cap xs (by rw [his]; exact hxlen) hold ⟨b2, o2, none⟩ m c2 yl hyl' hycell hgt (by omega) (growslice_fits hgt (by rw [hib]; omega))
          rw [← hxv, ← hyv] at hrun
          have e8 : xs.toArray ++ yl.toArray ++ Builtin.zeroCells zv.cells (grownCap w (len + m) cap et - (len + m)) = ((xs ++ yl) ++ (Builtin.zeroCells zv.cells (grownCap w (len + m) cap et - (len + m))).toList).toArray := by
            apply Array.ext'; simp
          rw [e8] at hrun
          exact run hrun
        have room : ∀ {vl junk : List Value}, o = 0 → w.heap[bb]? = some (.cells (vl ++ junk).toArray et (0, 0)) → len + m ≤ cap → len * s + yl.length ≤ (vl ++ junk).length →
            (execOp a.eval op).run P w = .ok (.value (.slice (some ⟨bb, 0, none⟩) (len + m) cap)) (w.setRow bb (((vl ++ junk).take (len * s) ++ yl ++ (vl ++ junk).drop (len * s + yl.length))).toArray) := fun {vl junk} ho0 hw1 hrm hfit => by
          have hrun := run_append_room (P := P) w t op.type et i ht hi bb len cap (vl ++ junk).toArray hw1 ⟨b2, o2, none⟩ m c2 yl hyl' hycell hone hrm (by rw [his]; simpa using hfit)
          rw [ho0] at hxv
          rw [← hxv, ← hyv, his] at hrun
          exact run hrun
        cases cap1 with
        | zero =>
          obtain ⟨h0, e7⟩ := bi_f e6
          obtain ⟨h1, e8⟩ := bi_f e7
          obtain ⟨h2, e9⟩ := bi_f e8
          have h0 := beq_t h0
          have h1 : (len + m) * by_ ≤ 16777216 := ble_t h1
          have h2 : len + m ≤ 16777216 := ble_t h2
          have hc0 : c = .c cap := by rcases hcap with h | ⟨_, h⟩; omega; exact h h0
          obtain ⟨ct, ce, cq, cl, hct, hat, e10⟩ := hcells_t e9
          obtain ⟨h3, e11⟩ := bi_f e10
          obtain ⟨h4, e12⟩ := bi_f e11
          have h3 := beq_t h3
          have h4 := beq_t h4
          obtain ⟨xl, e13, hxl⟩ := subK_t e12
          obtain ⟨zs, e14, hzs'⟩ := appK_t e13
          rw [hput_eq] at e14
          obtain ⟨b1, c1, vl, junk, hl1, hs1', hw1, hrl, _, hopn⟩ := H.cells hct hat
          rw [hs] at hs1'; injection hs1' with hs1'; injection hs1' with hs1' hs2'
          subst hs1' hs2'
          rw [← h4] at hw1
          obtain ⟨nn, ag', s', hcn, hT', hL⟩ := hopn h3
          rw [hc0] at hcn
          injection hcn with hcn
          subst hcn
          rw [← h4, hT] at hT'
          have hss : s = s' := by injection hT' with hT'; injection hT'
          subst hss
          obtain ⟨hle2, hrx2⟩ := hxl σ vl hrl
          have hle2 : 0 + len * s ≤ vl.length := hle2
          have hrx2 : RelL σ xl (vl.take (len * s)) := by simpa using hrx2
          have hxlen : (vl.take (len * s)).length = len * s := by simp; omega
          have hzr := hzs' σ _ _ hrx2 hyl
          have s1 := Step.drop H hl1
          have hn1 : (h.put p .z).nx = h.nx := rfl
          by_cases hrm : len + m ≤ cap
          · -- in place
            have hfit : len * s + yl.length ≤ (vl ++ junk).length := by
              rw [hL, hylen, ← Nat.add_mul]; exact Nat.mul_le_mul_right _ hrm
            refine .inl ⟨_, _, room h0 hw1 hrm hfit, ?_⟩
            rw [hnew_eq, fN_eq] at e14
            have hlist : (vl ++ junk).take (len * s) ++ yl ++ (vl ++ junk).drop (len * s + yl.length) = (vl.take (len * s) ++ yl) ++ (vl ++ junk).drop (len * s + yl.length) := by
              rw [List.take_append_of_le_length (by omega)]
            have s2 : Step P E R σ (h.put p .z) w (upS σ (h.put p .z).nx (bb, .c cap)) ((h.put p .z).new (.o 2 et .h zs)) (w.setRow bb ((vl ++ junk).take (len * s) ++ yl ++ (vl ++ junk).drop (len * s + yl.length)).toArray) := by
              refine .adopt s1.hr (setRow_heap _ _ _ _ _ _ hw1) (fun j hj => setRow_other _ _ _ _ hj) rfl ?_ ?_ ?_
              · intro q c' hq hsq
                obtain ⟨hq1, hq2⟩ := live_put_z hq
                exact hq2 (H.inj p q bb _ _ hl1 hq1 hs hsq)
              · intro x hx he
                exact (H.frame x hx).2 p _ hl1 (by rw [hs, he])
              · rw [hlist]
                refine .opn (hzr.mono (by rw [hn1]; exact H.ext _)) hT ?_
                rw [← hlist, ← hL, List.length_append, List.length_append, List.length_take, List.length_drop, Nat.min_eq_left (by omega)]
                omega
            exact ⟨_, _, _, e14, .sl (by rw [hn1]; exact upS_self _ _ _) hrm (.inr ⟨rfl, fun _ => rfl⟩), s1.trans s2⟩
          · -- a new block
            have hgt : cap < len + m := by omega
            refine .inl ⟨_, _, grow hrx2 hxlen (fun j u hj => ?_) hgt h1 h2, ?_⟩
            · have hlt := (List.getElem?_eq_some_iff.1 hj).1
              rw [List.getElem?_take_of_lt (by omega)] at hj
              rw [add_none, cell_of hw1, h0, Nat.zero_add, List.getElem?_append_left (by omega)]; exact hj
            · have hge := grownCap_ge w (len + m) cap et
              have e15 : hnew (h.put p .z) (.o 2 et .h zs) (fun q h' => k (vSl q 0 (len + m) 0) h') = true := by
                rw [hnew_eq, fN_eq] at e14; rw [hnew_eq]; exact e14
              have hg := good_new (w0 := w.drew) (gh := .c (grownCap w (len + m) cap et)) (val := fun p => vSl p 0 (len + m) 0) (x := .slice (some ⟨w.heap.size, 0, none⟩) (len + m) (grownCap w (len + m) cap et)) s1.hr rfl rfl e15
                (junk_ok hT ((hzr).mono (s1.hr.ext _)) (m := len + m) (by rw [List.length_append, hxlen, hylen, Nat.add_mul]) hzs hge) (.sl (upS_self _ _ _) hge (.inr ⟨rfl, fun _ => rfl⟩))
              obtain ⟨v, σ', h', g1, g2, g3⟩ := hg
              exact ⟨v, σ', h', g1, g2, s1.trans g3⟩
        | succ cp =>
          have hcp : cap = cp := by rcases hcap with h | ⟨h, _⟩ <;> omega
          subst hcp
          rcases bi_t e6 with ⟨hrm, e7⟩ | ⟨hrm, e7⟩
          · have hrm : len + m ≤ cap := ble_t hrm
            obtain ⟨ct, ce, cq, cl, hct, hat, e8⟩ := hcells_t e7
            obtain ⟨h0, e9⟩ := bi_f e8
            obtain ⟨h4, e10⟩ := bi_f e9
            have h0 := beq_t h0
            have h4 := beq_t h4
            obtain ⟨q, e11, hq⟩ := putK_t e10
            rw [hput_eq, fN_eq] at e11
            obtain ⟨b1, c1, vl, junk, hl1, hs1', hw1, hrl, hc1, hopn⟩ := H.cells hct hat
            rw [hs] at hs1'; injection hs1' with hs1'; injection hs1' with hs1' hs2'
            subst hs1' hs2'
            rw [← h4] at hw1
            obtain ⟨hle2, hrq⟩ := hq σ vl yl hrl hyl
            have hle2 : len * s + yl.length ≤ vl.length := hle2
            refine .inl ⟨_, _, room h0 hw1 hrm (by simp; omega), ?_⟩
            have hlist : (vl ++ junk).take (len * s) ++ yl ++ (vl ++ junk).drop (len * s + yl.length) = (vl.take (len * s) ++ yl ++ vl.drop (len * s + yl.length)) ++ junk := by
              rw [List.take_append_of_le_length (by omega), List.drop_append_of_le_length (by omega)]; simp
            rw [hlist]
            refine ⟨_, σ, _, e11, .sl hs hrm (.inl rfl), .put H hl1 hs (setRow_heap _ _ _ _ _ _ hw1) (fun j hj => setRow_other _ _ _ _ hj) rfl (.inr ?_)⟩
            rcases hct with rfl | rfl
            · obtain rfl := hc1 rfl
              have := OOk.cells (P := P) (c := c) (e := et) (q := Pos.h) hrq
              simpa using this
            · obtain ⟨nn, ag', s', rfl, hT', hL⟩ := hopn rfl
              rw [h4]
              exact .opn hrq hT' (by rw [← hL]; simp; omega)
          · have hrm := ble_f hrm
            have hgt : cap < len + m := hrm
            obtain ⟨h1, e8⟩ := bi_f e7
            obtain ⟨h2, e9⟩ := bi_f e8
            have h1 : (len + m) * by_ ≤ 16777216 := ble_t h1
            have h2 : len + m ≤ 16777216 := ble_t h2
            obtain ⟨ct, ce, cq, cl, hct, hat, e10⟩ := hcells_t e9
            obtain ⟨xl, e11, hxl⟩ := subK_t e10
            obtain ⟨zs, e12, hzs'⟩ := appK_t e11
            obtain ⟨b1, c1, vl, junk, hl1, hs1', hw1, hrl, _, _⟩ := H.cells hct hat
            rw [hs] at hs1'; injection hs1' with hs1'; injection hs1' with hs1' hs2'
            subst hs1' hs2'
            obtain ⟨hle2, hrx2⟩ := hxl σ vl hrl
            have hle2 : o + len * s ≤ vl.length := hle2
            have hrx2 : RelL σ xl ((vl.drop o).take (len * s)) := hrx2
            have hxlen : ((vl.drop o).take (len * s)).length = len * s := by simp; omega
            refine .inl ⟨_, _, grow hrx2 hxlen (fun j u hj => ?_) hgt h1 h2, ?_⟩
            · have hlt := (List.getElem?_eq_some_iff.1 hj).1
              rw [List.getElem?_take_of_lt (by omega), List.getElem?_drop] at hj
              rw [add_none, cell_of hw1, List.getElem?_append_left (by omega)]; exact hj
            · have hge := grownCap_ge w (len + m) cap et
              have e15 : hnew h (.o 2 et .h zs) (fun q h' => k (vSl q 0 (len + m) 0) h') = true := by
                rw [hnew_eq, fN_eq] at e12; rw [hnew_eq]; exact e12
              exact good_new (w0 := w.drew) (gh := .c (grownCap w (len + m) cap et)) (val := fun p => vSl p 0 (len + m) 0) H rfl rfl e15
                (junk_ok hT ((hzs' σ _ _ hrx2 hyl).mono (H.ext _)) (m := len + m) (by rw [List.length_append, hxlen, hylen, Nat.add_mul]) hzs hge) (.sl (upS_self _ _ _) hge (.inr ⟨rfl, fun _ => rfl⟩))⟩
end
end Go.Rc
namespace Go.Rc
open Go Go.Sym
section
variable {P : Program} {n : Nat} {x y z : Operand} {g gx gy gz : G} {t yt : TypeId}
theorem made_eq (zl : List Value) (s : Nat) (hs : zl.length = s) : ∀ c : Nat, (List.range (c * s)).map (fun i => zl.toArray[i % zl.toArray.size]!) = (List.replicate c zl).flatten
  | 0 => by simp
  | c + 1 => by
    have e1 : (c + 1) * s = s + c * s := by rw [Nat.succ_mul, Nat.add_comm]
    rw [e1, List.range_add, List.map_append, List.map_map, List.replicate_succ, List.flatten_cons]
    congr 1
    · apply List.ext_getElem
      · simp [hs]
      · intro i h1 h2
        simp only [List.getElem_map, List.getElem_range]
        have h3 : i % zl.toArray.size = i := Nat.mod_eq_of_lt (by simpa using h2)
        rw [h3]
        simp [h2]
    · rw [← made_eq zl s hs c]
      apply List.map_congr_left
      intro i _
      show zl.toArray[(s + i) % zl.toArray.size]! = _
      have h3 : (s + i) % zl.toArray.size = i % zl.toArray.size := by
        have : zl.toArray.size = s := by simpa using hs
        rw [this, Nat.add_mod_left]
      rw [h3]
theorem mks_ok {et : TypeId} {ag : Bool} {s by_ : Nat} {zl : List Value} {zv : V} (ht : P.underlying t = some (.slice et)) (hT : tyOf P et = some (ag, s)) (hby : bytesT P et = some by_) (hz : zeroOf P et = some zl) (hzv : ∀ σ, RelL σ zv zl) (hzl : zl.length = s) (hx : GOk n x gx) (hy : GOk n y gy) :
    WOk P n (.makeSlice t x y) (opMks et by_ zv gx gy) := ⟨fun cf rb fr h k E R σ a w op ho _ _ e0 hf H => by
  obtain ⟨i, hi, hib⟩ := run_bytesT hby
  have hi2 : i.size = s ∧ ∃ zv, i.zero = some zv ∧ zv.cells = zl.toArray := by
    constructor
    · have h1 := run_sizeT (P := P) (w := w) hT
      simp [sizeOf, run_info hi] at h1
      exact h1
    · unfold zeroOf at hz
      cases hzz : i.zero with
      | none => simp [hi, hzz] at hz
      | some zv => simp [hi, hzz] at hz; exact ⟨zv, rfl, by rw [← hz]⟩
  obtain ⟨his, zo, hzo, hzc⟩ := hi2
  obtain ⟨vx, x1, x2⟩ := hx.ex
  obtain ⟨vy, y1, y2⟩ := hy.ex
  have e1 := x1 _ _ e0
  have hrx := x2 σ fr a hf
  have hry := y2 σ fr a hf
  obtain ⟨l, kb, _, _, _, _, hv, hi1, hi3, e2⟩ := onNat_t e1
  rw [hv] at hrx
  obtain ⟨ql, hql⟩ := idx_val hrx hi1 hi3
  have e3 := y1 _ _ e2
  obtain ⟨c, kb2, _, _, _, _, hv2, hj1, hj3, e4⟩ := onNat_t e3
  rw [hv2] at hry
  obtain ⟨qc, hqc⟩ := idx_val hry hj1 hj3
  obtain ⟨h1, e5⟩ := bi_f e4
  obtain ⟨h2, e6⟩ := bi_f e5
  obtain ⟨h3, e7⟩ := bi_f e6
  have h1 : l ≤ c := ble_t h1
  have h2 : c ≤ 16777216 := ble_t h2
  have h3 : by_ * c ≤ 16777216 := ble_t h3
  obtain ⟨q, e8, hq⟩ := repK_t e7
  rw [hnew_eq, fN_eq] at e8
  have hb : (i.bytes : Int) * (c : Int) ≤ 281474976710656 := by
    have h : ((by_ * c : Nat) : Int) ≤ 281474976710656 := by omega
    rw [hib]; rwa [Int.natCast_mul] at h
  have hr := run_make (P := P) w t et i zo ht hi hzo ql qc l c (by omega) (by omega) hb (by omega)
  simp only [Int.toNat_natCast] at hr
  have hm : madeCells zo.cells (c * i.size) = (List.replicate c zl).flatten.toArray := by
    rw [hzc, his]
    apply Array.ext'
    rw [← made_eq zl s hzl c]
    simp [madeCells]
  rw [hm] at hr
  refine .inl ⟨.slice (some ⟨w.heap.size, 0, none⟩) l c, w.alloc (.cells (List.replicate c zl).flatten.toArray et), ?_, good_new (gh := .c 0) (val := fun p => vSl p 0 l (Nat.succ c)) H rfl rfl (by rw [hnew_eq]; exact e8) (.cells (hq _ zl (hzv _))) (.sl (upS_self _ _ _) h1 (.inl rfl))⟩
  simp only [execOp, ho, hql, hqc]
  rw [Sem.run_bind, hr]
  rfl⟩
/-! ### calls -/
theorem callG_ok {gi : Nat} {xs : List Operand} {gs : List G} {tys : Array TypeId} (hg : GsOk n xs gs) : WOk P n (.call ⟨.value (.func gi), xs.toArray, tys⟩) (opCallG (posOf gi) gs) := ⟨fun cf rb fr h k E R σ a w op ho hcf hrb e0 hf H => by
  obtain ⟨q, e1, h1⟩ := evsK_t hg e0
  obtain ⟨gj, hp, hrun, hcall⟩ := hcf rb (posOf gi) q h k E R σ w _ e1 hrb H (h1 σ a hf)
  obtain rfl := posOf_inj hp
  refine .inr (.inr ⟨gi, (xs.map a.eval).toArray, w, ?_, hcall⟩)
  simp [execOp, ho, resolve, Act.eval, Deferred.ofValue, invoke, hrun]⟩
theorem call_run {gi : Nat} {f : Operand} {xs : List Operand} {tys : Array TypeId} {a : Act} {fl cl : List Value} {op : Oper} {w : World} (ho : op.op = .call ⟨.value f, xs.toArray, tys⟩) (hv : a.eval f = .func (.func gi) fl.toArray cl.toArray) (hrun : ∀ args w, (callFunc gi args).run P w = .ok (.enter gi args) w) :
    (execOp a.eval op).run P w = .ok (.enter gi (fl ++ (xs.map a.eval ++ cl)).toArray) w := by
  simp [execOp, ho, resolve, hv, Deferred.ofValue, invoke, hrun]
theorem call_ok {f : Operand} {gf : G} {xs : List Operand} {gs : List G} {tys : Array TypeId} (hF : GOk n f gf) (hg : GsOk n xs gs) : OOp P n (.call ⟨.value f, xs.toArray, tys⟩) (opCall gf gs) := ⟨fun cf rb fr h k E R σ a w op ho hcf hrb e0 hf H => by
  obtain ⟨vf, f1, f2⟩ := hF.ex
  have e1 := f1 _ _ e0
  have hr := f2 σ fr a hf
  obtain ⟨q, e2, h1⟩ := evsK_t hg e1
  obtain ⟨tg, _, _, _, p, fs, cs, hv, e3⟩ := onC_t e2
  rw [hv] at hr
  rcases bi_t e3 with ⟨ht, e4⟩ | ⟨ht, e4⟩
  · have ht := beq_t ht
    subst ht
    obtain ⟨gi, fl, cl, hx, rfl, hfl, hcl⟩ := hr.c7
    obtain ⟨q1, e5, h5⟩ := appK_t e4
    obtain ⟨q2, e6, h6⟩ := appK_t e5
    obtain ⟨gj, hp, hrun, hcall⟩ := hcf rb (posOf gi) q2 h k E R σ w _ e6 hrb H (h6 σ _ _ (h5 σ _ _ hfl (h1 σ a hf)) hcl)
    obtain rfl := posOf_inj hp
    refine .inl (.inr (.inr ⟨gi, _, w, call_run ho hx hrun, ?_⟩))
    simpa using hcall
  · obtain ⟨ht, e5⟩ := bi_f e4
    have ht := beq_t ht
    subst ht
    obtain ⟨bb, c, hx, hs⟩ := hr.c8
    obtain ⟨bl, c', hs', g2, tm, ac, bd, hy, hR⟩ := hrb σ E R p q h k w _ (Ext.refl _) e5 H (h1 σ a hf)
    rw [hs] at hs'
    injection hs' with hs'
    injection hs' with hs' _
    subst hs'
    refine .inr ⟨bb, g2, tm, ac, bd, ?_, hR⟩
    have : (xs.toArray.map a.eval) = (xs.map a.eval).toArray := by simp
    simp only [execOp, ho, resolve, hx, Deferred.ofValue, this]
    simp [invoke, hy]⟩
theorem callD_ok {f : Operand} {gf : G} {xs : List Operand} {gs : List G} {tys : Array TypeId} (hF : GOk n f gf) (hg : GsOk n xs gs) : WOk P n (.call ⟨.value f, xs.toArray, tys⟩) (opCallD gf gs) := ⟨fun cf rb fr h k E R σ a w op ho hcf hrb e0 hf H => by
  obtain ⟨vf, f1, f2⟩ := hF.ex
  have e1 := f1 _ _ e0
  have hr := f2 σ fr a hf
  obtain ⟨q, e2, h1⟩ := evsK_t hg e1
  obtain ⟨tg, _, _, _, p, fs, cs, hv, e3⟩ := onC_t e2
  rw [hv] at hr
  obtain ⟨ht, e4⟩ := bi_f e3
  have ht := beq_t ht
  subst ht
  obtain ⟨gi, fl, cl, hx, rfl, hfl, hcl⟩ := hr.c7
  obtain ⟨q1, e5, h5⟩ := appK_t e4
  obtain ⟨q2, e6, h6⟩ := appK_t e5
  obtain ⟨gj, hp, hrun, hcall⟩ := hcf rb (posOf gi) q2 h k E R σ w _ e6 hrb H (h6 σ _ _ (h5 σ _ _ hfl (h1 σ a hf)) hcl)
  obtain rfl := posOf_inj hp
  refine .inr (.inr ⟨gi, _, w, call_run ho hx hrun, ?_⟩)
  simpa using hcall⟩
/-! ### methods -/
theorem run_methOf {ty gi : Nat} {name : String} (h : methOf P ty name = some gi) (v : Value) (fu : Nat) (w : World) : (method (fu + 1) ty v name).run P w = .ok (gi, v) w := by
  unfold methOf at h
  cases hi : P.info? ty with
  | none => rw [hi] at h; cases h
  | some i =>
    rw [hi] at h
    simp only at h
    cases hm : i.methods.find? (·.name == name) with
    | none => rw [hm] at h; cases h
    | some m =>
      rw [hm] at h
      simp only at h
      have hti : (typeInfo ty).run P w = .ok i w := run_info hi
      have hpath : m.path.isEmpty = true → m.path.toList = [] := fun h => by simpa using h
      split at h
      · rename_i hp hf hu
        injection h with h
        subst h
        simp only [method, Sem.run_bind, hti, Result.andThen_ok, hm, hpath hp, follow, Sem.run_pure, hf, receiverAt, run_underlying hu, Place.get]
      · cases h
      · cases h
      · rename_i h1 h2 hp hf hu
        injection h with h
        subst h
        simp only [method, Sem.run_bind, hti, Result.andThen_ok, hm, hpath hp, follow, Sem.run_pure, hf, receiverAt, run_underlying hu, Place.get]
      · cases h
theorem methsK_t {name : String} : ∀ {n : Nat} {k : (Nat → (Pos → Bool) → Bool) → Bool}, methsK P name n k = true → ∃ m, k m = true ∧ ∀ ty k', m ty k' = true → ∃ g, methOf P ty name = some g ∧ k' (posOf g) = true
  | 0, k, h => ⟨mNil, h, fun _ _ h => by cases h⟩
  | t + 1, k, h => by
    unfold methsK at h
    cases hm : methOf P t name with
    | none =>
      rw [hm] at h
      exact methsK_t (n := t) h
    | some g =>
      rw [hm] at h
      simp only at h
      rw [posK_eq, fN_eq] at h
      obtain ⟨m, h1, h2⟩ := methsK_t (n := t) h
      refine ⟨_, h1, fun ty k' h3 => ?_⟩
      rcases bi_t h3 with ⟨h4, h5⟩ | ⟨_, h5⟩
      · exact ⟨g, by rw [← beq_t h4]; exact hm, h5⟩
      · exact h2 ty k' h5
theorem inv_ok {f : Operand} {gf : G} {xs : List Operand} {gs : List G} {tys : Array TypeId} {name : String} {m : Nat → (Pos → Bool) → Bool} (hF : GOk n f gf) (hg : GsOk n xs gs) (hm : ∀ ty k', m ty k' = true → ∃ g, methOf P ty name = some g ∧ k' (posOf g) = true) :
    WOk P n (.call ⟨.invoke f name, xs.toArray, tys⟩) (opInv gf m gs) := ⟨fun cf rb fr h k E R σ a w op ho hcf hrb e0 hf H => by
  obtain ⟨vf, f1, f2⟩ := hF.ex
  have e1 := f1 _ _ e0
  have hr := f2 σ fr a hf
  obtain ⟨q, e2, h1⟩ := evsK_t hg e1
  obtain ⟨tg, ty, _, _, p, u, _, hv, e3⟩ := onC_t e2
  rw [hv] at hr
  obtain ⟨ht, e4⟩ := bi_f e3
  have ht := beq_t ht
  subst ht
  obtain ⟨uv, hx, hu⟩ := hr.c11
  obtain ⟨gi, hmo, e5⟩ := hm _ _ e4
  obtain ⟨gj, hp, hrun, hcall⟩ := hcf rb (posOf gi) _ h k E R σ w _ e5 hrb H (.cons hu (h1 σ a hf))
  obtain rfl := posOf_inj hp
  refine .inr (.inr ⟨gi, _, w, ?_, hcall⟩)
  have e6 := run_methOf hmo uv (P.types.size + 99) w
  have e8 : #[a.eval f] ++ xs.toArray.map a.eval = (Value.iface ty uv :: xs.map a.eval).toArray := by simp [hx]
  have e7 : (Value.iface ty uv :: xs.map a.eval).toArray.extract 1 = (xs.map a.eval).toArray := by
    simp
    rw [List.take_of_length_le (by simp)]
  simp only [execOp, ho, resolve, Sem.run_bind, Sem.run_pure, Result.andThen_ok, e8]
  show (invoke (.fn (.method name) #[]) (Value.iface ty uv :: xs.map a.eval).toArray).run P w = _
  unfold invoke
  simp only [List.getElem?_toArray, List.getElem?_cons_zero, callMethod, Sem.run_bind, e7]
  rw [show (program : Sem Program).run P w = .ok P w from rfl, Result.andThen_ok, show P.types.size + Made.depth = P.types.size + 99 + 1 from rfl, e6, Result.andThen_ok]
  simpa using hrun _ w⟩
/-! ### ranging over a map -/
theorem onIt_t {v : V} {h : Hp} {k : Pos → Nat → Pos → V → Bool} (e : onIt v h k = true) : ∃ b d p l r e' m vis, v = .c 2 0 b d p l r ∧ h.t.at p = .o 4 e' m vis ∧ k p e' m vis = true := by
  obtain ⟨o, b, d, p, l, r, hv, e1⟩ := onPtr_t e
  obtain ⟨h0, e2⟩ := bi_f e1
  obtain ⟨t, e', m, vis, hat, e3⟩ := onO_t (hget_t e2)
  obtain ⟨h1, e4⟩ := bi_f e3
  rw [beq_t h0] at hv
  rw [beq_t h1] at hat
  exact ⟨b, d, p, l, r, e', m, vis, hv, hat, e4⟩
theorem onMk_t {mk p : Pos} {k : Bool} (e : onMk mk p k = true) : mk = .o p ∧ k = true := by
  cases mk with
  | h => cases e
  | i _ => cases e
  | o q =>
    obtain ⟨h1, h2⟩ := bi_f (b := q.eq p) e
    exact ⟨by rw [(Pos.eq_iff _ _).1 h1], h2⟩
theorem hasK_t {q : IntKind} {vis : V} {visl : List Int} (hv : RelVis q vis visl) {a : Nat} (ha : a < kmod q) {t f : Bool} (h : hasK vis a (kc q) t f = true) : (q.wrap a ∈ visl ∧ t = true) ∨ (q.wrap a ∉ visl ∧ f = true) := by
  induction hv with
  | nil => exact .inr ⟨by simp, h⟩
  | cons hb ha' hz _ ih =>
    rename_i a' b' d' p' e' r' z' l' _
    have h : bi (Nat.beq a' a) (bi (Nat.beq b' (kc q)) (onC e' fun _ _ _ _ _ _ v => t) (hasK r' a (kc q) t f)) (hasK r' a (kc q) t f) = true := h
    rcases bi_t h with ⟨h1, h2⟩ | ⟨h1, h2⟩
    · have h1 := beq_t h1
      subst h1
      rcases bi_t h2 with ⟨h3, h4⟩ | ⟨h3, h4⟩
      · obtain ⟨_, _, _, _, _, _, _, _, h5⟩ := onC_t h4
        exact .inl ⟨by rw [hz]; simp, h5⟩
      · exact absurd hb (beq_f h3)
    · have h1 := beq_f h1
      rcases ih h2 with ⟨h3, h4⟩ | ⟨h3, h4⟩
      · exact .inl ⟨List.mem_cons_of_mem _ h3, h4⟩
      · refine .inr ⟨fun hm => ?_, h4⟩
        rcases List.mem_cons.1 hm with hm | hm
        · rw [hz] at hm
          exact h1 (wrap_inj ha' ha hm.symm)
        · exact h3 hm
theorem nextAll_t {σ : Sg} {q : IntKind} {l vis : V} {ml : List (Int × Value)} {visl : List Int} (h : RelM σ q l ml) (hv : RelVis q vis visl) {c : Nat → Nat → V → V → Bool} : ∀ {z : Bool}, nextAll l vis z c = true →
    ((∀ p ∈ ml, p.1 ∈ visl) → z = true) ∧ ∀ p ∈ ml, p.1 ∉ visl → ∃ a kv v, c a (kc q) kv v = true ∧ a < kmod q ∧ p.1 = q.wrap a ∧ Rel σ kv (.int q p.1) ∧ Rel σ v p.2 := by
  induction h with
  | nil => intro z e; exact ⟨fun _ => e, fun p hp => by simp at hp⟩
  | cons hb ha hz hk hv2 _ ih =>
    rename_i a b d p kv v r zz x l' t' a' b' d' p' _
    intro z e
    subst hb
    have e : hasK vis a (kc q) (nextAll r vis z c) (bi (c a (kc q) kv v) (nextAll r vis true c) false) = true := e
    rcases hasK_t hv ha e with ⟨h1, h2⟩ | ⟨h1, h2⟩
    · obtain ⟨h3, h4⟩ := ih h2
      refine ⟨fun hall => h3 fun p hp => hall p (List.mem_cons_of_mem _ hp), fun p hp hn => ?_⟩
      rcases List.mem_cons.1 hp with rfl | hp
      · exact absurd (by rw [← hz] at h1; exact h1) hn
      · exact h4 p hp hn
    · obtain ⟨h3, h5⟩ := bi_f h2
      obtain ⟨_, h4⟩ := ih h5
      refine ⟨fun hall => absurd (by have := hall (zz, x) (List.mem_cons_self ..); rw [hz] at this; exact this) h1, fun p hp hn => ?_⟩
      rcases List.mem_cons.1 hp with rfl | hp
      · exact ⟨a, kv, v, h3, ha, hz, hk, hv2⟩
      · exact h4 p hp hn
theorem rng_ok {kt et : TypeId} {ke : Nat} (hx : GOk n x g) (ht : P.underlying t = some (.map kt et)) (hk : ke < 8) : WOk P n (.range t x) (opRng ke g) := ⟨fun cf rb fr h k E R σ a w o ho _ _ e hfr H => by
  obtain ⟨val, h1, h2⟩ := hx.ex
  have hr := h2 σ fr a hfr
  obtain ⟨_, _, _, p, _, _, q0, m, hv, hat, e2⟩ := onMap_t (h1 _ _ e)
  rw [hv] at hr
  obtain ⟨bb, c, hxv, hs⟩ := hr.c5
  obtain ⟨b, c', es, clock, hl, hs', hw, hm⟩ := H.map hat
  rw [hs] at hs'
  injection hs' with hs'
  injection hs' with hb hc'
  subst hb hc'
  rcases hm with ⟨q, ml, hke, hM, hR⟩ | ⟨ml, h8, _⟩
  case inr => exact absurd hk (by omega)
  rw [hnew_eq, hput_eq] at e2
  have hg : (getObj bb).run P w = .ok (.map es clock) w := by simp [getObj, Sem.run, hw]
  have hext := H.ext (w.heap.size, Gh.it es clock)
  have s1 := Step.alloc (c := .it es clock) (ao := .o 4 ke p .n) (ob := .mapIter (some bb) clock #[] clock) H (.iter hke (hext _ _ hs) (Iter.start hM) .nil (fun _ _ _ _ _ _ _ _ _ _ _ _ _ e => by cases e))
  have hpn : p ≠ h.nx := fun e => by rw [e, H.nx] at hs; cases hs
  have hl1 : Live (h.new (.o 4 ke p .n)) p := by
    unfold Live at hl ⊢
    rw [show (h.new (.o 4 ke p .n)).t.at p = _ from HT.at_set _ _ _ _, if_neg (Ne.symm hpn)]
    exact hl
  have hbw : (w.alloc (.mapIter (some bb) clock #[] clock)).heap[bb]? = some (.map es clock) := by
    rw [alloc_other _ _ _ (Nat.ne_of_lt (Array.getElem?_eq_some_iff.1 hw).1)]; exact hw
  have s2 := Step.put (w' := w.alloc (.mapIter (some bb) clock #[] clock)) (ao := .o 3 ke (.o h.nx) m) s1.hr hl1 (s1.ext _ _ hs) hbw (fun _ _ => rfl) rfl (.inr (.mapI hke hM (hR.mono s1.ext) (.inr (.inl ⟨h.nx, _, rfl, upS_self _ _ _⟩))))
  refine .inl ⟨.pointer (some ⟨w.heap.size, 0, none⟩), w.alloc (.mapIter (some bb) clock #[] clock), ?_, _, _, _, e2, .ptr (upS_self _ _ _), s1.trans s2⟩
  simp only [execOp, ho, hxv, Instr.range, Sem.run_bind, run_underlying ht, Result.andThen_ok, hg, Sem.run_pure]
  rfl⟩
/-- an iterator and its map, that has not turned since -/
theorem HR.iter {E : Env} {R : List Blk} {σ : Sg} {h : Hp} {w : World} (H : HR P E R σ h w) {p m : Pos} {e e2 : Nat} {vis l : V} (ha : h.t.at p = .o 4 e m vis) (hm : h.t.at m = .o 3 e2 (.o p) l) :
    ∃ b mb gm es clock seen visl, ∃ q : IntKind, Live h p ∧ σ p = some (b, .it es clock) ∧ σ m = some (mb, gm) ∧ w.heap[b]? = some (.mapIter (some mb) clock seen clock) ∧ w.heap[mb]? = some (.map es clock) ∧ e = kc q ∧ Iter (Value.int q) es clock seen visl ∧ RelVis q vis visl ∧ CurOk σ vis es seen ∧
      ((∃ (q' : IntKind) (ml : List (Int × Value)), e2 = kc q' ∧ MapOf (Value.int q') ml es clock ∧ RelM σ q' l ml) ∨ (∃ ml : List (ByteArray × Value), e2 = 8 ∧ MapOf Value.string ml es clock ∧ RelMS σ l ml)) := by
  have hl : Live h p := by unfold Live; rw [ha]; simp
  have hlm : Live h m := by unfold Live; rw [hm]; simp
  obtain ⟨b, c, ob, h1, h2, h3⟩ := H.live p hl
  obtain ⟨b', c', ob', h4, h5, h6⟩ := H.live m hlm
  rw [ha] at h3
  rw [hm] at h6
  cases h3 with
  | iter he hs hI hv hc =>
    rw [hs] at h4
    injection h4 with h4
    injection h4 with h4 h7
    subst h4 h7
    have key : ∀ {es' : Array MapEntry} {cl' : Nat}, MkOk σ (.o p) es' cl' → es' = _ ∧ cl' = _ := fun {es' cl'} hk => by
      rcases hk with hk | ⟨q, b2, hq, hk⟩ | ⟨_, _, _, _, hq, _⟩
      · cases hk
      case inr.inr => cases hq
      · injection hq with hq
        subst hq
        rw [h1] at hk
        injection hk with hk
        injection hk with _ hk
        injection hk with k1 k2
        exact ⟨k1.symm, k2.symm⟩
    cases h6 with
    | mapI he2 hM hr hk =>
      obtain ⟨rfl, rfl⟩ := key hk
      exact ⟨b, _, _, _, _, _, _, _, hl, h1, hs, h2, h5, he, hI, hv, hc, .inl ⟨_, _, he2, hM, hr⟩⟩
    | mapS he2 hM hr hk =>
      obtain ⟨rfl, rfl⟩ := key hk
      exact ⟨b, _, _, _, _, _, _, _, hl, h1, hs, h2, h5, he, hI, hv, hc, .inr ⟨_, he2, hM, hr⟩⟩
/-- the next entry: none is left, or one that has not come yet -/
theorem run_next {ty : TypeId} {K : Type} {enc : K → Value} {es : Array MapEntry} {clock : Nat} {l : List (K × Value)} {seen : Array Nat} {vis : List K} {w : World} {b m : Nat} (hb : w.heap[b]? = some (.mapIter (some m) clock seen clock)) (hm : w.heap[m]? = some (.map es clock))
    (hM : MapOf enc l es clock) (hI : Iter enc es clock seen vis) (hinj : ∀ a b, enc a = enc b → a = b) :
    ((∀ p ∈ l, p.1 ∈ vis) ∧ (Instr.next (.pointer (some ⟨b, 0, none⟩)) false ty).run P w = .ok (.tuple #[.bool false]) w) ∨
    ∃ (p : K × Value) (seen' : Array Nat) (w1 : World), p ∈ l ∧ p.1 ∉ vis ∧ Iter enc es clock seen' (p.1 :: vis) ∧ Cur es seen' (enc p.1) p.2 ∧ w1.heap = w.heap ∧ (w1.os, w1.output) = (w.os, w.output) ∧
      (Instr.next (.pointer (some ⟨b, 0, none⟩)) false ty).run P w = .ok (.tuple #[.bool true, enc p.1, p.2]) { w1 with heap := w1.heap.setIfInBounds b (.mapIter (some m) clock seen' clock) } := by
  have hg : (getObj m).run P w = .ok (.map es clock) w := by simp [getObj, Sem.run, hm]
  have hg2 : (getObj b).run P w = .ok (.mapIter (some m) clock seen clock) w := by simp [getObj, Sem.run, hb]
  have hguard : (!seen.isEmpty && !es.isEmpty && es.all (·.born ≥ clock)) = false := by
    cases he : es.isEmpty with
    | true => simp
    | false =>
      have hne : 0 < es.size := by
        rcases Nat.eq_zero_or_pos es.size with h | h
        · simp [Array.isEmpty, h] at he
        · exact h
      have : es.all (·.born ≥ clock) = false := by
        rw [Array.all_eq_false]
        refine ⟨0, hne, ?_⟩
        have := hI.lt es[0] (by simp)
        simp; omega
      simp [this]
  have hleft : ∀ e ∈ (es.filter fun e => !seen.contains e.born), e.born < clock := fun e he => hI.lt e (by have := (Array.mem_filter.1 he).1; simpa using this)
  have hold : ((es.filter fun e => !seen.contains e.born).filter (·.born < clock)) = (es.filter fun e => !seen.contains e.born) := by
    rw [Array.filter_eq_self]; intro e he; simpa using hleft e he
  have hnew : ((es.filter fun e => !seen.contains e.born).filter (·.born ≥ clock)) = #[] := by
    rw [Array.filter_eq_empty_iff]; intro e he; have := hleft e he; simp; omega
  generalize hleftE : (es.filter fun e => !seen.contains e.born) = left at *
  have hmem : ∀ e ∈ left, e ∈ es.toList ∧ e.born ∉ seen := by
    intro e he; rw [← hleftE] at he
    have := Array.mem_filter.1 he
    exact ⟨by simpa using this.1, by simpa using this.2⟩
  cases hle : left.isEmpty with
  | true =>
    have hemp : left = #[] := by simpa using hle
    refine .inl ⟨fun p hp => ?_, ?_⟩
    rotate_left
    · simp only [Instr.next, Sem.run_bind, hg2, Result.andThen_ok, hg, hguard, Bool.false_eq_true, if_false, hleftE, hold, hnew, hle, if_true]
      simp [hemp, choose, Sem.run, Question.forced]
    · obtain ⟨i, hi⟩ := List.getElem?_of_mem hp
      have hge := hM.get i
      rw [hi] at hge
      obtain ⟨e, he, hek⟩ := Option.map_eq_some_iff.1 hge
      have hes : e ∈ es.toList := by simpa using Array.mem_of_getElem? he
      have hseen : e.born ∈ seen := by
        rcases Classical.em (e.born ∈ seen) with h | h
        · exact h
        · have : e ∈ left := by rw [← hleftE]; exact Array.mem_filter.2 ⟨by simpa using hes, by simpa using h⟩
          rw [hemp] at this; simp at this
      obtain ⟨k', hk', hkey⟩ := (hI.vis e hes).1 hseen
      simp only [Prod.mk.injEq] at hek
      have : p.1 = k' := hinj _ _ (hek.1.symm.trans hkey)
      rw [this]; exact hk'
  | false =>
    have hpos : 0 < left.size := by
      rcases Nat.eq_zero_or_pos left.size with h | h
      · simp [Array.isEmpty, h] at hle
      · exact h
    have hch : ∃ j w1, j < left.size ∧ (choose (.mapNext left.size)).run P w = .ok j w1 ∧ w1.heap = w.heap ∧ (w1.os, w1.output) = (w.os, w.output) := by
      by_cases hf : left.size ≤ 1
      · exact ⟨0, w, hpos, by simp [choose, Sem.run, Question.forced, hf], rfl, rfl⟩
      · exact ⟨w.tape w.drawn (.mapNext left.size) % left.size, { w with drawn := w.drawn + 1 }, Nat.mod_lt _ hpos, by simp [choose, Sem.run, Question.forced, hf, Question.cut], rfl, rfl⟩
    obtain ⟨j, w1, hj, hrun, hh1, hh2⟩ := hch
    have hej := hmem left[j] (Array.getElem_mem _)
    obtain ⟨i, hi⟩ := List.getElem?_of_mem hej.1
    have hge := hM.get i
    rw [show es[i]? = some left[j] by simpa using hi] at hge
    obtain ⟨p, hp, hpk⟩ := Option.map_eq_some_iff.1 hge.symm
    simp only [Prod.mk.injEq] at hpk
    have hpl : p ∈ l := List.mem_of_getElem? hp
    have hnv : p.1 ∉ vis := fun hv => hej.2 ((hI.vis _ hej.1).2 ⟨p.1, hv, hpk.1.symm⟩)
    have hI' : Iter enc es clock (seen.push left[j].born) (p.1 :: vis) := by
      refine ⟨hI.lt, fun e he => ?_⟩
      rw [Array.mem_push, hI.vis e he]
      constructor
      · rintro (⟨k, hk, hke⟩ | hb)
        · exact ⟨k, List.mem_cons_of_mem _ hk, hke⟩
        · refine ⟨p.1, List.mem_cons_self, ?_⟩
          have : e = left[j] := by
            obtain ⟨i2, hi2⟩ := List.getElem?_of_mem he
            have h1 : (es.toList.map (·.born))[i2]? = some left[j].born := by rw [List.getElem?_map, hi2]; simp [hb]
            have h2 : (es.toList.map (·.born))[i]? = some left[j].born := by rw [List.getElem?_map, hi]; simp
            have h1' := List.getElem?_eq_some_iff.1 h1
            have h2' := List.getElem?_eq_some_iff.1 h2
            have := (List.getElem_inj (h₀ := h1'.1) (h₁ := h2'.1) hM.born).1 (h1'.2.trans h2'.2.symm)
            subst this
            exact Option.some.inj (hi2.symm.trans hi)
          rw [this]; exact hpk.1.symm
      · rintro ⟨k, hk, hke⟩
        rcases List.mem_cons.1 hk with rfl | hk
        · right
          obtain ⟨i2, hi2⟩ := List.getElem?_of_mem he
          have hge2 := hM.get i2
          rw [show es[i2]? = some e by simpa using hi2] at hge2
          obtain ⟨q, hq, hqk⟩ := Option.map_eq_some_iff.1 hge2.symm
          simp only [Prod.mk.injEq] at hqk
          have hqp : q.1 = p.1 := hinj _ _ (hqk.1.trans hke)
          have h1 : (l.map (·.1))[i2]? = some p.1 := by simp [hq, hqp]
          have h2 : (l.map (·.1))[i]? = some p.1 := by simp [hp]
          have h1' := List.getElem?_eq_some_iff.1 h1
          have h2' := List.getElem?_eq_some_iff.1 h2
          have := (List.getElem_inj (h₀ := h1'.1) (h₁ := h2'.1) hM.keys).1 (h1'.2.trans h2'.2.symm)
          subst this
          rw [Option.some.inj (hi2.symm.trans hi)]
        · left; exact ⟨k, hk, hke⟩
    have hcur : Cur es (seen.push left[j].born) (enc p.1) p.2 := ⟨left[j], hej.1, by simp, hpk.1.symm, hpk.2.symm⟩
    have hb1 : w1.heap[b]? = some (.mapIter (some m) clock seen clock) := by rw [hh1]; exact hb
    have hset := run_setObj (P := P) (o' := .mapIter (some m) clock (seen.push left[j].born) clock) hb1 (by simp)
    refine .inr ⟨p, _, w1, hpl, hnv, hI', hcur, hh1, hh2, ?_⟩
    simp only [Instr.next, Sem.run_bind, hg2, Result.andThen_ok, hg, hguard, Bool.false_eq_true, if_false, hleftE, hold, hnew, hle]
    have hsz : (#[] ++ (left ++ #[]).map some : Array (Option MapEntry)).size = left.size := by simp
    rw [hsz, hrun]
    simp only [Result.andThen_ok]
    have hget : (#[] ++ (left ++ #[]).map some : Array (Option MapEntry))[j]? = some (some left[j]) := by simp [hj]
    rw [hget]
    simp only [Sem.run_bind, hset, Result.andThen_ok, Sem.run_pure]
    rw [hpk.1, hpk.2]
theorem nx_ok (hx : GOk n x g) : WOk P n (.next x false) (opNx g) := ⟨fun cf rb fr h k E R σ a w o ho _ _ e hfr H => by
  obtain ⟨val, h1, h2⟩ := hx.ex
  have hr := h2 σ fr a hfr
  obtain ⟨_, _, p, _, _, e', m, vis, hv, hat, e2⟩ := onIt_t (h1 _ _ e)
  rw [hv] at hr
  obtain ⟨bb, c, hxv, hs⟩ := hr.c2
  obtain ⟨t2, e3, mk, l, hatm, e4⟩ := onO_t (hget_t e2)
  obtain ⟨h3, e5⟩ := bi_f e4
  rw [beq_t h3] at hatm
  obtain ⟨h4, e5⟩ := bi_f e5
  rw [beq_t h4] at hatm
  obtain ⟨rfl, e6⟩ := onMk_t e5
  obtain ⟨b, mb, gm, es, clock, seen, visl, q, hl, hs1, hsm, hb, hm, rfl, hI, hvis, hc, hmap⟩ := H.iter hat hatm
  rw [hs] at hs1
  injection hs1 with hs1
  injection hs1 with hs1 hs2
  subst hs1 hs2
  rcases hmap with ⟨q', ml, hke, hM, hR⟩ | ⟨ml, hke, hM, hR⟩
  · obtain rfl := kc_inj hke
    · skip
      obtain ⟨hnone, hsome⟩ := nextAll_t hR hvis e6
      rcases run_next (P := P) (ty := o.type) hb hm hM hI (fun a b h => by injection h) with ⟨hall, hrun⟩ | ⟨pr, seen', w1, hpl, hnv, hI', hcur, hw1, hw2, hrun⟩
      · refine .inl ⟨_, w, ?_, _, σ, h, hnone hall, .tup (.cons (.ff σ) .nil), .refl H⟩
        simp only [execOp, ho, hxv, Sem.run_bind, hrun, Result.andThen_ok]
        rfl
      · obtain ⟨ka, kv, v, e7, hka, hpz, hkv, hvv⟩ := hsome pr hpl hnv
        rw [hput_eq] at e7
        have hlt := (Array.getElem?_eq_some_iff.1 hb).1
        have s1 := Step.put (w' := { w1 with heap := w1.heap.setIfInBounds bb (.mapIter (some mb) clock seen' clock) }) (ao := .o 4 (kc q) m (vEnt ka (kc q) kv v vis)) H hl hs (ob := .mapIter (some mb) clock seen' clock) (by simp [hw1, hlt]) (fun j hj => by simp [hw1, Array.getElem?_setIfInBounds_ne (Ne.symm hj)]) hw2
          (.inr (.iter rfl hsm hI' (.cons rfl hka hpz hvis) (fun t a b d p t' a' b' d' p' kv' v' r e => by
            have e : V.c 13 ka (kc q) 0 .h (.c 15 0 0 0 .h kv v) vis = _ := e
            injection e with _ _ _ _ _ q1 _
            injection q1 with _ _ _ _ _ q2 q3
            subst q2 q3
            exact ⟨_, _, hkv, hvv, hcur⟩)))
        refine .inl ⟨_, _, ?_, _, σ, _, e7, .tup (.cons (.tt σ) (.cons hkv (.cons hvv .nil))), s1⟩
        simp only [execOp, ho, hxv, Sem.run_bind, hrun, Result.andThen_ok]
        rfl
  · exact absurd hke (kc_lt q)⟩
theorem en_ok (hx : GOk n x g) : WOk P n (.entry x) (opEn g) := ⟨fun cf rb fr h k E R σ a w o ho _ _ e hfr H => by
  obtain ⟨val, h1, h2⟩ := hx.ex
  have hr := h2 σ fr a hfr
  obtain ⟨_, _, p, _, _, e', m, vis, hv, hat, e2⟩ := onIt_t (h1 _ _ e)
  rw [hv] at hr
  obtain ⟨bb, c, hxv, hs⟩ := hr.c2
  rcases onL_t e2 with ⟨_, h0⟩ | ⟨vt, va, vb, vd, vp, ve, vr, rfl, e3⟩
  · cases h0
  obtain ⟨_, _, _, _, _, kv, v, rfl, e4⟩ := onC_t e3
  obtain ⟨t2, e5, mk, l, hatm, e6⟩ := onO_t (hget_t e4)
  obtain ⟨h3, e7⟩ := bi_f e6
  rw [beq_t h3] at hatm
  obtain ⟨rfl, e8⟩ := onMk_t e7
  obtain ⟨b, mb, gm, es, clock, seen, visl, q, hl, hs1, hsm, hb, hm, rfl, hI, hvis, hc, hmap⟩ := H.iter hat hatm
  rw [hs] at hs1
  injection hs1 with hs1
  injection hs1 with hs1 hs2
  subst hs1 hs2
  obtain ⟨kx, vx, hkx, hvx, hcur⟩ := hc _ _ _ _ _ _ _ _ _ _ _ _ _ rfl
  have hborn : (es.toList.map (·.born)).Nodup := by
    rcases hmap with ⟨_, _, _, hM, _⟩ | ⟨_, _, hM, _⟩ <;> exact hM.born
  have hg : (getObj mb).run P w = .ok (.map es clock) w := by simp [getObj, Sem.run, hm]
  have hg2 : (getObj bb).run P w = .ok (.mapIter (some mb) clock seen clock) w := by simp [getObj, Sem.run, hb]
  obtain ⟨en, he, hbk, hk1, hv1⟩ := hcur
  have hfind : es.find? (·.born == en.born) = some en := by
    rw [← Array.find?_toList]
    have key : ∀ (ls : List MapEntry), (ls.map (·.born)).Nodup → en ∈ ls → ls.find? (·.born == en.born) = some en := by
      intro ls
      induction ls with
      | nil => intro _ h; simp at h
      | cons a ls ih =>
        intro hn hm
        rw [List.map_cons, List.nodup_cons] at hn
        rcases List.mem_cons.1 hm with rfl | hm
        · simp
        · have hne : (a.born == en.born) = false := by
            simp; intro hab; exact hn.1 (List.mem_map.2 ⟨en, hm, hab.symm⟩)
          simp [hne, ih hn.2 hm]
    exact key _ hborn he
  refine .inl ⟨.tuple #[kx, vx], w, ?_, _, σ, h, e8, .tup (.cons hkx (.cons hvx .nil)), .refl H⟩
  simp [execOp, ho, hxv, Instr.entry, hg, hg2, hbk, hfind, hk1, hv1]⟩
/-! ### m[k], n[l] = v, w -/
theorem run_mapEntry {K : Type} [DecidableEq K] {kt et : TypeId} {m : Nat} {k : K} {enc : K → Value} {l : List (K × Value)} {es : Array MapEntry} {clock : Nat} {w : World} {z0 : Value} (hb : w.heap[m]? = some (.map es clock)) (hM : MapOf enc l es clock) (KL : KeyLaw P kt enc) (ht : Und P t (.map kt et)) (hz : zeroVal P et = some z0) :
    ∃ es' c' b, (Instr.mapEntry t (.map (some m)) (enc k)).run P w = .ok (.tuple #[(lookV l k).getD z0, .int .i64 (b : Nat)]) { w with heap := w.heap.setIfInBounds m (.map es' c') } ∧ MapOf enc (entV l k z0) es' c' ∧ Stamp enc es' b k ∧ (lookV l k ≠ none → es' = es ∧ c' = clock) := by
  have hg : (getObj m).run P w = .ok (.map es clock) w := by simp [getObj, Sem.run, hb]
  have hset : ∀ o', (setObj m o').run P w = .ok () { w with heap := w.heap.setIfInBounds m o' } := fun o' => run_setObj hb (by simp)
  have hz1 := run_zeroV (P := P) (w := w) hz
  have hv : lookV l k = ((l.map (·.1)).idxOf? k).bind fun i => (es[i]?).map (·.val) := by
    unfold lookV
    cases hi : (l.map (·.1)).idxOf? k with
    | none => rfl
    | some i =>
      have := congrArg (Option.map Prod.snd) (hM.get i)
      simp only [Option.map_map] at this
      simpa [Function.comp_def] using this.symm
  have hs := lookV_isSome l k
  cases hi : (l.map (·.1)).idxOf? k with
  | some i =>
    have hil : i < es.size := by
      have h1 := (List.getElem?_eq_some_iff.1 (idxOf?_some hi)).1
      rw [hM.size]; simpa using h1
    have hkey : es[i].key = enc k := by
      have h1 := congrArg (fun x => x[i]?) hM.keyMap
      simp only [List.getElem?_map] at h1
      have h2 := idxOf?_some hi
      rw [List.getElem?_map] at h2
      obtain ⟨p, hp, hpk⟩ := Option.map_eq_some_iff.1 h2
      simp [hil, hp, hpk] at h1
      exact h1
    have hhas : Go.Sym.hasK l k = true := by rw [← hs, hv, hi]; simp [hil]
    have hent : entV l k z0 = l := by unfold entV; rw [if_pos hhas]
    have hes : (es.modify i fun e => { e with key := es[i].key }) = es := by
      apply Array.ext (by simp)
      intro j h1 h2
      rw [Array.getElem_modify]
      split
      · rename_i hij; subst hij; rfl
      · rfl
    refine ⟨es, clock, es[i].born, ?_, by rw [hent]; exact hM, ⟨es[i], by simp, rfl, hkey⟩, fun _ => ⟨rfl, rfl⟩⟩
    simp only [Instr.mapEntry, Sem.run_bind, run_underlying ht.eq, Result.andThen_ok, hg, KL.check, hM.find KL, hi, Option.bind_some]
    have e1 : (es[i]?) = some es[i] := Array.getElem?_eq_getElem hil
    simp only [e1, Option.map_some, Option.getD_some, Instr.keyThatStays, hkey, KL.bits, if_true]
    rw [hkey] at hes
    rw [hv, hi]
    simp [hes, hset, goInt, hil]
  | none =>
    have hhas : Go.Sym.hasK l k = false := by rw [← hs, hv, hi]; rfl
    have hlook : lookV l k = none := by rw [hv, hi]; rfl
    have hent : entV l k z0 = putV l k z0 := by unfold entV putV; rw [if_neg (by simp [hhas]), if_neg (by simp [hhas])]
    have hpush := mapOf_push (v := z0) hM hi
    rw [← hent] at hpush
    refine ⟨_, _, clock, ?_, hpush, ⟨{ key := enc k, val := z0, born := clock }, by simp, rfl, rfl⟩, fun hn => absurd hlook hn⟩
    simp only [Instr.mapEntry, Sem.run_bind, run_underlying ht.eq, Result.andThen_ok, hg, KL.check, hM.find KL, hi, Option.bind_none, hz1, hset, Sem.run_pure, hlook, Option.getD_none]
    rfl
theorem run_entryStore {K : Type} [DecidableEq K] {m : Nat} {k : K} {enc : K → Value} {l : List (K × Value)} {es : Array MapEntry} {clock : Nat} {w : World} {v : Value} {b : Nat} (hb : w.heap[m]? = some (.map es clock)) (hM : MapOf enc l es clock) (hS : Stamp enc es b k) (hinj : ∀ a b, enc a = enc b → a = b) :
    ∃ es', (Instr.entryStore t (.map (some m)) (.int .i64 b) v).run P w = .ok () { w with heap := w.heap.setIfInBounds m (.map es' clock) } ∧ MapOf enc (putV l k v) es' clock := by
  have hg : (getObj m).run P w = .ok (.map es clock) w := by simp [getObj, Sem.run, hb]
  have hset : ∀ o', (setObj m o').run P w = .ok () { w with heap := w.heap.setIfInBounds m o' } := fun o' => run_setObj hb (by simp)
  obtain ⟨e, he, heb, hek⟩ := hS
  obtain ⟨i, hi⟩ := List.getElem?_of_mem he
  have hi' : es[i]? = some e := by simpa using hi
  have hil : i < es.size := (Array.getElem?_eq_some_iff.1 hi').1
  have hge := hM.get i
  rw [hi'] at hge
  obtain ⟨p, hp, hpk⟩ := Option.map_eq_some_iff.1 hge.symm
  simp only [Prod.mk.injEq] at hpk
  have hpk1 : p.1 = k := hinj _ _ (hpk.1.trans hek)
  have hidx : (l.map (·.1)).idxOf? k = some i := by
    cases hj : (l.map (·.1)).idxOf? k with
    | none => exact absurd (List.mem_map.2 ⟨p, List.mem_of_getElem? hp, hpk1⟩) (idxOf?_none hj)
    | some j =>
      have h1 := idxOf?_some hj
      have h2 : (l.map (·.1))[i]? = some k := by simp [hp, hpk1]
      have h1' := List.getElem?_eq_some_iff.1 h1
      have h2' := List.getElem?_eq_some_iff.1 h2
      rw [(List.getElem_inj (h₀ := h1'.1) (h₁ := h2'.1) hM.keys).1 (h1'.2.trans h2'.2.symm)]
  have hfind : es.findIdx? (fun e => (e.born : Int) == (b : Int)) = some i := by
    rw [Array.findIdx?_eq_some_iff_getElem]
    obtain ⟨h1, h2⟩ := Array.getElem?_eq_some_iff.1 hi'
    refine ⟨hil, by rw [h2, heb]; simp, fun j hj => ?_⟩
    simp only [Bool.not_eq_true, beq_eq_false_iff_ne, ne_eq]
    intro hbj
    have h3 : (es.toList.map (·.born))[j]? = some b := by simp [show j < es.size by omega]; omega
    have h4 : (es.toList.map (·.born))[i]? = some b := by simp [hi', heb]
    have h3' := List.getElem?_eq_some_iff.1 h3
    have h4' := List.getElem?_eq_some_iff.1 h4
    have := (List.getElem_inj (h₀ := h3'.1) (h₁ := h4'.1) hM.born).1 (h3'.2.trans h4'.2.symm)
    omega
  have hput0 := mapOf_put (v := v) hM hidx
  have hes : (es.modify i fun e => { e with key := enc k, val := v }) = (es.modify i fun e => { e with val := v }) := by
    apply Array.ext (by simp)
    intro j h1 h2
    rw [Array.getElem_modify, Array.getElem_modify]
    split
    · rename_i hij
      subst hij
      have := (Array.getElem?_eq_some_iff.1 hi').2
      rw [this, hek]
    · rfl
  have hput : MapOf enc (putV l k v) (es.modify i fun e => { e with val := v }) clock := by rw [← hes]; exact hput0
  refine ⟨_, ?_, hput⟩
  simp only [Instr.entryStore, Sem.run_bind, hg, Result.andThen_ok, asInt, asIntOf, Sem.run_pure, hfind, hset]
theorem KeyLaw.inj {K : Type} [DecidableEq K] {kt : TypeId} {enc : K → Value} (KL : KeyLaw P kt enc) (w : World) : ∀ a b, enc a = enc b → a = b := fun a b h => by
  have h1 := KL.find a [a] [{ key := enc a, val := enc a, born := 0 }] w rfl
  have h2 := KL.find b [a] [{ key := enc a, val := enc a, born := 0 }] w rfl
  rw [← h, h1] at h2
  injection h2 with h2 _
  by_cases hab : a = b
  · exact hab
  · simp [List.idxOf?, List.findIdx?, List.findIdx?.go, hab] at h2
theorem me_ok {kt et : TypeId} {ke : Nat} (ht : P.underlying t = some (.map kt et)) (hf : KeyFit P kt ke) (hx : GOk n x gx) (hy : GOk n y gy) {z0 : Value} {zv : V} (hz : zeroVal P et = some z0) (hzv : ∀ σ, Rel σ zv z0) : WOk P n (.mapEntry t x y) (opMapEnt ke zv gx gy) := ⟨fun cf rb fr h k E R σ a w o ho _ _ e0 hfr H => by
  obtain ⟨vx, x1, x2⟩ := hx.ex
  obtain ⟨vy, y1, y2⟩ := hy.ex
  have hr := x2 σ fr a hfr
  obtain ⟨_, _, _, p, _, _, q, m, hv, hat, e1⟩ := onMap_t (x1 _ _ e0)
  rw [hv] at hr
  obtain ⟨bb, c, hxv, hs⟩ := hr.c5
  obtain ⟨b1, c1, es, clock, hl1, hs1, hw1, hm⟩ := H.map hat
  rw [hs] at hs1; injection hs1 with hs1; injection hs1 with hs1 hc1
  subst hs1 hc1
  have e1' := y1 _ _ e1
  obtain ⟨K, dk, enc, ml, kk, na, nb, hkey, KL, hM, e2, hlook, hup, _⟩ := key_data hf hm (y2 σ fr a hfr) e1'
  have e2 : (h.nx.succK fun nx' => (fun q h1 => lookK m na nb (fun v => hput h1 p (.o 3 ke (.i q) m) fun h2 => k (vTup (vCons v (vCons (vStamp q (vy fr)) .n))) h2) (upK m na nb (vy fr) zv fun l' => hput h1 p (.o 3 ke (.i q) l') fun h2 => k (vTup (vCons zv (vCons (vStamp q (vy fr)) .n))) h2)) h.nx ⟨h.t, nx', h.lg⟩) = true := e2
  rw [Pos.succK_eq] at e2
  obtain ⟨es', c', b, hrun, hM', hst, hsame⟩ := run_mapEntry (P := P) (t := t) (k := kk) hw1 hM KL ⟨ht⟩ hz
  have sn := Step.name H (bb, Gh.ent b (enc kk))
  have hself := upS_self σ h.nx (bb, Gh.ent b (enc kk))
  have hmk : MkOk (upS σ h.nx (bb, Gh.ent b (enc kk))) (.i h.nx) es' c' := .inr (.inr ⟨h.nx, bb, b, enc kk, rfl, hself, hst⟩)
  have hl2 : Live ⟨h.t, h.nx.succ, h.lg⟩ p := hl1
  obtain ⟨h1, h2⟩ := heap_set (o' := .map es' c') hw1
  have hkr : Rel (upS σ h.nx (bb, Gh.ent b (enc kk))) (vy fr) (enc kk) := by have q0 := (y2 σ fr a hfr).mono sn.ext; rw [hkey] at q0; exact q0
  have hexec : (execOp a.eval o).run P w = .ok (.value (.tuple #[(lookV ml kk).getD z0, .int .i64 (b : Nat)])) { w with heap := w.heap.setIfInBounds bb (.map es' c') } := by
    simp only [execOp, ho, hxv, hkey]
    rw [Sem.run_bind, hrun]
    rfl
  have hold : OOk P (upS σ h.nx (bb, Gh.ent b (enc kk))) c (.o 3 ke q m) (.map es clock) := by
    obtain ⟨b', c', ob, g1, g2, g3⟩ := H.live p hl1
    rw [hs] at g1
    injection g1 with g1
    injection g1 with g1 g4
    subst g1 g4
    rw [hw1] at g2
    injection g2 with g2
    subst g2
    rw [hat] at g3
    exact g3.mono sn.ext
  have hfin : ∀ (v : V) (val : Value) (l' : V), Rel σ v val → val = (lookV ml kk).getD z0 → OOk P (upS σ h.nx (bb, Gh.ent b (enc kk))) c (.o 3 ke (.i h.nx) l') (.map es' c') → k (vTup (vCons v (vCons (vStamp h.nx (vy fr)) .n))) ((⟨h.t, h.nx.succ, h.lg⟩ : Hp).put p (.o 3 ke (.i h.nx) l')) = true → OpW P o a w (Good P E R σ h w k) := fun v val l' hv2 hval hO e3 => by
    subst hval
    exact .inl ⟨_, _, hexec, _, _, _, e3, .tup (.cons (hv2.mono sn.ext) (.cons (.stamp hself hkr) .nil)), sn.trans (Step.put sn.hr hl2 (sn.ext _ _ hs) h1 h2 rfl (.inr hO))⟩
  rcases hlook _ _ e2 with ⟨v, val, hl3, hrv, e3⟩ | ⟨hl3, e3⟩
  · rw [hput_eq] at e3
    obtain ⟨rfl, rfl⟩ := hsame (by rw [hl3]; simp)
    exact hfin v val m hrv (by rw [hl3]; rfl) (hold.remark hmk) e3
  · obtain ⟨l', e4, hO⟩ := hup _ _ _ (hzv σ) e3
    rw [hput_eq] at e4
    have hhas : Go.Sym.hasK ml kk = false := by rw [← lookV_isSome, hl3]; rfl
    have hent : entV ml kk z0 = putV ml kk z0 := by unfold entV putV; rw [if_neg (by simp [hhas]), if_neg (by simp [hhas])]
    rw [hent] at hM'
    exact hfin zv z0 l' (hzv σ) (by rw [hl3]; rfl) (((hO es' c' c hM').mono sn.ext).remark hmk) e4⟩
theorem es_ok {kt et : TypeId} {ke : Nat} (ht : P.underlying t = some (.map kt et)) (hf : KeyFit P kt ke) (hx : GOk n x gx) (hy : GOk n y gy) (hz : GOk n z gz) : WOk P n (.entryStore t x y z) (opEntSt ke gx gy gz) := ⟨fun cf rb fr h k E R σ a w o ho _ _ e0 hfr H => by
  obtain ⟨vx, x1, x2⟩ := hx.ex
  obtain ⟨vy, y1, y2⟩ := hy.ex
  obtain ⟨vz, z1, z2⟩ := hz.ex
  have hr := x2 σ fr a hfr
  obtain ⟨tg, _, _, _, p, _, _, hv, e1⟩ := onC_t (x1 _ _ e0)
  obtain ⟨h5, e2⟩ := bi_f e1
  have h5 := beq_t h5
  subst h5
  rw [hv] at hr
  obtain ⟨bb, c, hxv, hs⟩ := hr.c5
  obtain ⟨t2, e', mk, l, hat, e3⟩ := onO_t (hget_t e2)
  obtain ⟨h3, e4⟩ := bi_f e3
  obtain ⟨h4, e5⟩ := bi_f e4
  rw [beq_t h3, beq_t h4] at hat
  obtain ⟨ts, _, _, _, q, kv, _, hvs, e6⟩ := onC_t (y1 _ _ e5)
  obtain ⟨h21, e7⟩ := bi_f e6
  have h21 := beq_t h21
  subst h21
  have hmk : mk = .i q ∧ (onKey ke kv fun a b => gz fr fun v => upK l a b kv v fun l' => hput h p (.o 3 ke .h l') fun h' => k vUndef h') = true := by
    cases mk with
    | h => cases e7
    | o _ => cases e7
    | i q' =>
      obtain ⟨g1, g2⟩ := bi_f (b := q'.eq q) e7
      exact ⟨by rw [(Pos.eq_iff _ _).1 g1], g2⟩
  obtain ⟨rfl, e8⟩ := hmk
  have hrs := y2 σ fr a hfr
  rw [hvs] at hrs
  generalize hyv : a.eval y = yv at hrs
  cases hrs with
  | stamp hσ hkv =>
    rename_i b0 nb0 key
    have hl1 : Live h p := by unfold Live; rw [hat]; simp
    obtain ⟨b1, c1, ob, hs1, hw1, hO1⟩ := H.live p hl1
    rw [hs] at hs1
    injection hs1 with hs1
    injection hs1 with hs1 hc1
    subst hs1 hc1
    rw [hat] at hO1
    have hmap : ∃ es clock, ob = .map es clock ∧ (∃ en ∈ es.toList, en.born = nb0 ∧ en.key = key) ∧ ((∃ (q : IntKind) (ml : List (Int × Value)), ke = kc q ∧ MapOf (Value.int q) ml es clock ∧ RelM σ q l ml) ∨ (∃ ml : List (ByteArray × Value), ke = 8 ∧ MapOf Value.string ml es clock ∧ RelMS σ l ml)) := by
      have key2 : ∀ {es : Array MapEntry} {clock : Nat}, MkOk σ (.i q) es clock → ∃ en ∈ es.toList, en.born = nb0 ∧ en.key = key := fun {es clock} hk => by
        rcases hk with hk | ⟨_, _, hq, _⟩ | ⟨q', b', n', K', hq, hk, hen⟩
        · cases hk
        · cases hq
        · injection hq with hq
          subst hq
          rw [hσ] at hk
          injection hk with hk
          injection hk with _ hk
          injection hk with k1 k2
          subst k1 k2
          exact hen
      cases hO1 with
      | mapI he hM hR hk => exact ⟨_, _, rfl, key2 hk, .inl ⟨_, _, he, hM, hR⟩⟩
      | mapS he hM hR hk => exact ⟨_, _, rfl, key2 hk, .inr ⟨_, he, hM, hR⟩⟩
    obtain ⟨es, clock, rfl, hen, hdata⟩ := hmap
    obtain ⟨K, dk, enc, ml, kk, na, nb, hkey, KL, hM, e9, _, hup, _⟩ := key_data hf hdata hkv e8
    subst hkey
    obtain ⟨l', e10, hO⟩ := hup _ _ _ (z2 σ fr a hfr) (z1 _ _ e9)
    obtain ⟨es', hrun, hM'⟩ := run_entryStore (P := P) (t := t) (k := kk) (v := a.eval z) hw1 hM hen (KeyLaw.inj KL w)
    rw [hput_eq] at e10
    obtain ⟨h1, h2⟩ := heap_set (o' := .map es' clock) hw1
    refine .inr (.inl ⟨{ w with heap := w.heap.setIfInBounds bb (.map es' clock) }, ?_, _, σ, _, e10, .undef σ, .put H hl1 hs h1 h2 rfl (.inr (hO es' clock _ hM'))⟩)
    simp only [execOp, ho, hxv, hyv]
    rw [Sem.run_bind, hrun]
    rfl⟩
end
end Go.Rc
namespace Go.Rc
open Go Go.Sym
inductive OpSpec (P : Program) (n : Nat) (dr : Bool) (op : Op) (f : OpF) : Kd → Prop
  | quiet (h : QOk P n op f noRn) : OpSpec P n dr op f .quiet
  | read {g : G} {val : T → V} (hg : ∀ fr k, g fr k = true → k (val fr) = true) (h : QOk P n op f (valRn val)) : OpSpec P n dr op f (.read g)
  | loud (h : OOp P n op f) (hd : dr = true → WOk P n op f) : OpSpec P n dr op f .loud
theorem OpSpec.w {P : Program} {n : Nat} {dr : Bool} {op : Op} {f : OpF} (h : WOk P n op f) : OpSpec P n dr op f .loud := .loud h.o fun _ => h
section
variable {P : Program} {n : Nat} {x y z : Operand} {g gx gy gz : G} {t yt : TypeId}
theorem zerosK_t {k : V → Bool} (h : zerosK P t k = true) : ∃ zl zv, zeroOf P t = some zl ∧ (∀ σ, RelL σ zv zl) ∧ k zv = true := by
  unfold zerosK at h
  cases hz : zeroOf P t with
  | none => rw [hz] at h; cases h
  | some l =>
    rw [hz] at h
    obtain ⟨a, h1, h2⟩ := scLK_t h
    exact ⟨l, a, rfl, h2, h1⟩
theorem partsK_t : ∀ {l : List (Nat × Operand)} {k : (T → V → (V → Bool) → Bool) → Bool}, partsK P n t l k = true → ∃ b, PtsOk n (fieldPl P t) l b ∧ k b = true
  | [], k, h => ⟨bNil, .nil, h⟩
  | (i, x) :: l, k, h => by
    unfold partsK at h
    cases hp : fieldPl P t i with
    | none => rw [hp] at h; cases h
    | some om =>
      obtain ⟨o, m⟩ := om
      rw [hp] at h
      obtain ⟨g, h1, h2⟩ := opdK_t h
      obtain ⟨b, h3, h4⟩ := partsK_t h2
      exact ⟨_, .cons hp h1 h3, h4⟩
theorem apartsK_t {s : Nat} : ∀ {l : List (Nat × Operand)} {k : (T → V → (V → Bool) → Bool) → Bool}, apartsK n s l k = true → ∃ b, PtsOk n (fun i => some (i * s, s)) l b ∧ k b = true
  | [], k, h => ⟨bNil, .nil, h⟩
  | (i, x) :: l, k, h => by
    obtain ⟨g, h1, h2⟩ := opdK_t (x := x) (k := fun g => fN (Nat.mul i s) fun o => apartsK n s l fun r => k (bCons o s g r)) h
    rw [fN_eq] at h2
    obtain ⟨b, h3, h4⟩ := apartsK_t h2
    exact ⟨_, .cons rfl h1 h3, h4⟩
theorem seqK_t {s : Nat} : ∀ {l : List (Nat × Operand)} {i : Nat} {k : Nat → (T → (V → Bool) → Bool) → Bool}, seqK n s i l k = true → ∃ b, QsOk n s l b ∧ k (i + l.length) b = true ∧ ∀ (j : Nat) (p : Nat × Operand), l[j]? = some p → p.1 = i + j
  | [], i, k, h => ⟨qNil, .nil, h, fun j p e => by cases e⟩
  | (j, x) :: l, i, k, h => by
    obtain ⟨h0, h1⟩ := bi_f (b := Nat.beq i j) h
    obtain ⟨g, h2, h3⟩ := opdK_t h1
    obtain ⟨b, h4, h5, h6⟩ := seqK_t h3
    have h0 := beq_t h0
    refine ⟨_, .cons h2 h4, by simpa [Nat.add_assoc, Nat.add_comm 1] using h5, fun u p e => ?_⟩
    cases u with
    | zero => simp at e; subst e; exact h0.symm
    | succ u => have := h6 u p (by simpa using e); omega
theorem keyK_fit {k : Nat → Bool} (h : keyK P t k = true) : ∃ kt et ke, P.underlying t = some (.map kt et) ∧ KeyFit P kt ke ∧ k ke = true := by
  unfold keyK at h
  split at h
  · rename_i kt et hu
    split at h
    · rename_i q hq
      exact ⟨kt, et, _, hu, .inl ⟨q, hq, rfl⟩, h⟩
    · rename_i hq
      exact ⟨kt, et, _, hu, .inr ⟨hq, rfl⟩, h⟩
    · cases h
  · cases h
theorem isStr_t (h : isStr P t = true) : P.underlying t = some .string := by
  unfold isStr at h
  split at h
  · assumption
  · cases h
theorem isStruct_t (h : isStruct P t = true) : ∃ fs, P.underlying t = some (.struct fs) := by
  unfold isStruct at h
  split at h
  · exact ⟨_, by assumption⟩
  · cases h
theorem sv_ok {s d : TypeId} (hx : GOk n x g) (hs : P.underlying s = some .string) (hd : P.underlying d = some .string) : QOk P n (.convert s d x) (opSv g) noRn := ⟨fun cf rb fr h k E R σ a w e hf _ => by
  obtain ⟨val, h1, h2⟩ := hx.ex
  have hr := h2 σ fr a hf
  have e0 := h1 _ _ e
  obtain ⟨tg, _, _, _, _, _, _, hv, e1⟩ := onC_t e0
  obtain ⟨ht, e2⟩ := bi_f e1
  have ht := beq_t ht
  subst ht
  have hr' := hr
  rw [hv] at hr'
  obtain ⟨st, hxv, _⟩ := hr'.c6
  refine ⟨_, _, e2, hr, fun w' o ho _ => ?_⟩
  simp [execOp, ho, hxv, convert, run_underlying hs, run_underlying hd]⟩
theorem elemU8_t (h : elemU8 P t = true) : ∃ e, P.underlying t = some (.slice e) ∧ P.underlying e = some (.int .u8) := by
  unfold elemU8 at h
  split at h
  · rename_i e hu
    split at h
    · exact ⟨e, hu, by assumption⟩
    · cases h
  · cases h
theorem eqnK_t {w tg : Nat} {o : BinOp} {k : KO} {dr : Bool} (hk : NilKind P t w tg) (hx : GOk n x gx) (hy : GOk n y gy) (hc : isC x || isC y = true) (h : eqnK w tg o gx gy k = true) : ∃ f kd, k f kd = true ∧ OpSpec P n dr (.binOp o t x y yt) f kd := by
  unfold eqnK at h
  split at h
  · exact ⟨_, _, h, .quiet (eqN_ok hk hx hy hc).1⟩
  · exact ⟨_, _, h, .quiet (eqN_ok hk hx hy hc).2⟩
  · cases h
theorem intK_t {q : IntKind} {o : BinOp} {k : KO} {dr : Bool} (hx : GOk n x gx) (hy : GOk n y gy) (h : intK q o gx gy k = true) : ∃ f kd, k f kd = true ∧ OpSpec P n dr (.binOp o t x y yt) f kd := by
  unfold intK at h
  simp only at h
  split at h <;> first
    | exact ⟨_, _, h, .quiet (addR_ok hx hy)⟩
    | exact ⟨_, _, h, .quiet (sub_ok hx hy)⟩
    | exact ⟨_, _, h, .quiet (mul_ok hx hy)⟩
    | exact ⟨_, _, h, .quiet (quo_ok hx hy)⟩
    | exact ⟨_, _, h, .quiet (remR_ok hx hy)⟩
    | exact ⟨_, _, h, .quiet (and2_ok hx hy)⟩
    | exact ⟨_, _, h, .quiet (or_ok hx hy)⟩
    | exact ⟨_, _, h, .quiet (xor_ok hx hy)⟩
    | exact ⟨_, _, h, .quiet (eql_ok hx hy)⟩
    | exact ⟨_, _, h, .quiet (neq_ok hx hy)⟩
    | exact ⟨_, _, h, .quiet (lss_ok hx hy)⟩
    | exact ⟨_, _, h, .quiet (leq_ok hx hy)⟩
    | exact ⟨_, _, h, .quiet (gtr_ok hx hy)⟩
    | exact ⟨_, _, h, .quiet (geq_ok hx hy)⟩
    | exact ⟨_, _, h, .quiet (shl_ok hx hy)⟩
    | exact ⟨_, _, h, .quiet (shrR_ok hx hy)⟩
    | cases h
theorem strOpK_t {o : BinOp} {k : KO} {dr : Bool} (hx : GOk n x gx) (hy : GOk n y gy) (h : strOpK o gx gy k = true) : ∃ f kd, k f kd = true ∧ OpSpec P n dr (.binOp o t x y yt) f kd := by
  unfold strOpK at h
  split at h <;> first
    | exact ⟨_, _, h, .quiet (sAdd_ok hx hy)⟩
    | exact ⟨_, _, h, .quiet (sEq_ok hx hy)⟩
    | exact ⟨_, _, h, .quiet (sNe_ok hx hy)⟩
    | exact ⟨_, _, h, .quiet (sLss_ok hx hy)⟩
    | exact ⟨_, _, h, .quiet (sGtr_ok hx hy)⟩
    | cases h
theorem binK_t {o : BinOp} {k : KO} {dr : Bool} (hx : GOk n x gx) (hy : GOk n y gy) (h : binK P o t x y gx gy k = true) : ∃ f kd, k f kd = true ∧ OpSpec P n dr (.binOp o t x y yt) f kd := by
  unfold binK at h
  split at h
  · exact intK_t hx hy h
  · exact strOpK_t hx hy h
  · rename_i hu
    split at h
    · exact ⟨_, _, h, .quiet (eqB_ok hx hy hu).1⟩
    · exact ⟨_, _, h, .quiet (eqB_ok hx hy hu).2⟩
    · cases h
  · rename_i e hu
    rcases bi_t h with ⟨hc, h⟩ | ⟨_, h⟩
    · exact eqnK_t (.inl ⟨rfl, rfl, e, hu⟩) hx hy (by simpa using hc) h
    · split at h
      · rename_i hT
        split at h
        · exact ⟨_, _, h, .w (eqP_ok hu hT hx hy).1⟩
        · exact ⟨_, _, h, .w (eqP_ok hu hT hx hy).2⟩
        · cases h
      · cases h
  · rename_i e hu
    obtain ⟨hc, h⟩ := bi_f h
    exact eqnK_t (.inr (.inl ⟨rfl, rfl, e, hu⟩)) hx hy (by simpa using hc) h
  · rename_i k' e hu
    obtain ⟨hc, h⟩ := bi_f h
    exact eqnK_t (.inr (.inr (.inl ⟨rfl, rfl, k', e, hu⟩))) hx hy (by simpa using hc) h
  · rename_i i r b hu
    obtain ⟨hc, h⟩ := bi_f h
    exact eqnK_t (.inr (.inr (.inr (.inl ⟨rfl, rfl, i, r, b, hu⟩)))) hx hy (by simpa using hc) h
  · rename_i m hu
    obtain ⟨hc, h⟩ := bi_f h
    exact eqnK_t (.inr (.inr (.inr (.inr ⟨rfl, rfl, m, hu⟩)))) hx hy (by simpa using hc) h
  · cases h
theorem copK_t {dr : Bool} {op : Op} {k : KO} (h : copK P n dr op k = true) : ∃ f kd, k f kd = true ∧ OpSpec P n dr op f kd := by
  unfold copK at h
  split at h
  · obtain ⟨g, hg, h⟩ := opdK_t h
    exact ⟨_, _, h, .quiet (mv_ok hg)⟩
  · obtain ⟨g, hg, h⟩ := opdK_t h
    exact ⟨_, _, h, .quiet (asg_ok hg)⟩
  · obtain ⟨g1, h1, h⟩ := opdK_t h
    obtain ⟨g2, h2, h⟩ := opdK_t h
    obtain ⟨g3, h3, h⟩ := opdK_t h
    exact ⟨_, _, h, .quiet (pick_ok h1 h2 h3)⟩
  · obtain ⟨zl, zv, h1, h2, h⟩ := zerosK_t h
    exact ⟨_, _, h, .w (alloc_ok h1 h2)⟩
  · obtain ⟨g, hg, h⟩ := opdK_t h
    exact ⟨_, _, h, .w (box_ok hg)⟩
  · obtain ⟨zl, zv, h1, h2, h⟩ := zerosK_t h
    split at h
    · rename_i hu
      split at h
      · rename_i hT
        obtain ⟨b, h3, h⟩ := apartsK_t h
        exact ⟨_, _, h, .quiet (build_ok h2 h3 fun vs r w hf => run_buildA hu hT h1 (by simpa using hf))⟩
      · cases h
    · obtain ⟨hs, h⟩ := bi_f h
      obtain ⟨b, h3, h⟩ := partsK_t h
      obtain ⟨fs, hst⟩ := isStruct_t hs
      exact ⟨_, _, h, .quiet (build_ok h2 h3 fun vs r w hf => run_build' hst h1 hs (by simpa using hf))⟩
  · split at h
    · rename_i hu
      split at h
      · rename_i hT hz
        obtain ⟨h1, h⟩ := bi_f h
        obtain ⟨h2, h⟩ := bi_f h
        obtain ⟨b, h3, h, h4⟩ := seqK_t h
        obtain ⟨h5, h⟩ := bi_f h
        have h5 := beq_t h5
        exact ⟨_, _, h, .w (bsl_ok hu hT hz h3 (fun j p e => by simpa using h4 j p e) (by simpa using h5) (ble_t h1))⟩
      · cases h
    · cases h
  · obtain ⟨g, hg, h⟩ := opdK_t h
    split at h
    · rename_i hT
      obtain ⟨val, h1, h2⟩ := ld1_ok hg hT
      exact ⟨_, _, h, .read h1 h2⟩
    · rename_i hT
      obtain ⟨val, h1, h2⟩ := ldN_ok hg hT
      exact ⟨_, _, h, .read h1 h2⟩
    · cases h
  · obtain ⟨g1, h1, h⟩ := opdK_t h
    obtain ⟨g2, h2, h⟩ := opdK_t h
    split at h
    · rename_i hT
      exact ⟨_, _, h, .w (st_ok hT h1 h2)⟩
    · cases h
  · obtain ⟨g, hg, h⟩ := opdK_t h
    exact ⟨_, _, h, .quiet (nck_ok hg)⟩
  · obtain ⟨g1, h1, h⟩ := opdK_t h
    obtain ⟨g2, h2, h⟩ := opdK_t h
    exact binK_t h1 h2 h
  · obtain ⟨g, hg, h⟩ := opdK_t h
    exact ⟨_, _, h, .quiet (not_ok hg)⟩
  · obtain ⟨g, hg, h⟩ := opdK_t h
    split at h
    · rename_i hs hd
      exact ⟨_, _, h, .quiet (cvR_ok hg hs hd)⟩
    · rcases bi_t h with ⟨h1, h⟩ | ⟨_, h⟩
      · obtain ⟨h2, h⟩ := bi_f h
        exact ⟨_, _, h, .quiet (sv_ok hg (isStr_t h1) (isStr_t h2))⟩
      · obtain ⟨h1, h⟩ := bi_f h
        obtain ⟨h2, h⟩ := bi_f h
        obtain ⟨e, he1, he2⟩ := elemU8_t h1
        obtain ⟨val, h3, h4⟩ := b2s_ok hg he1 he2 (isStr_t h2)
        exact ⟨_, _, h, .read h3 h4⟩
  · obtain ⟨g, hg, h⟩ := opdK_t h
    split at h
    · cases h
    · rename_i d hn hu
      exact ⟨_, _, h, .quiet (mki_ok hg hu fun ms he => hn ms he)⟩
    · cases h
  · have h : posK _ _ = true := h
    rw [posK_eq] at h
    obtain ⟨g1, h1, h⟩ := opdsK_t h
    obtain ⟨g2, h2, h⟩ := opdsK_t h
    exact ⟨_, _, h, .quiet (by simpa using mkf_ok h1 h2)⟩
  · obtain ⟨kt, et, ke, hu, hf, h⟩ := keyK_fit h
    exact ⟨_, _, h, .w (mkm_ok (et := et) hf)⟩
  · obtain ⟨g1, h1, h⟩ := opdK_t h
    obtain ⟨g2, h2, h⟩ := opdK_t h
    split at h
    · rename_i hu
      split at h
      · rename_i hb
        split at h
        · rename_i hT hz
          obtain ⟨hl, h⟩ := bi_f h
          obtain ⟨zl, zv, h3, h4, h9⟩ := zerosK_t h
          rw [h3] at hz
          injection hz with hz
          subst hz
          exact ⟨_, _, h9, .w (mks_ok hu hT hb h3 h4 (beq_t hl) h1 h2)⟩
        · cases h
      · cases h
    · cases h
  · obtain ⟨g, hg, h⟩ := opdK_t h
    obtain ⟨lo, hlo, h⟩ := opdoK_t h
    obtain ⟨hi, hhi, h⟩ := opdoK_t h
    obtain ⟨mx, hmx, h⟩ := opdoK_t h
    obtain ⟨h0, h8⟩ := bi_g h
    clear h
    have h0 : ¬ (hi.isNone = true ∧ mx.isSome = true) := by simpa using h0
    split at h8
    · rename_i hu
      split at h8
      · rename_i hT
        obtain ⟨hs, h8⟩ := bi_f h8
        exact ⟨_, _, h8, .quiet (slS_ok hu hT (ble_t hs) hg hlo hhi hmx h0)⟩
      · cases h8
    · rename_i hu
      split at h8
      · rename_i hT
        exact ⟨_, _, h8, .quiet (slA_ok hu hT hg hlo hhi hmx h0)⟩
      · cases h8
    · rename_i hu
      split at h8
      · rcases hmx with ⟨rfl, _⟩ | ⟨_, _, _, he, _⟩
        · exact ⟨_, _, h8, .quiet (slT_ok hu hg hlo hhi)⟩
        · cases he
      · cases h8
    · cases h8
  · obtain ⟨g, hg, h⟩ := opdK_t h
    split at h
    · rename_i hO
      exact ⟨_, _, h, .quiet (fa_ok hg hO)⟩
    · cases h
  · obtain ⟨g, hg, h⟩ := opdK_t h
    split at h
    · rename_i hT
      exact ⟨_, _, h, .quiet (fd1_ok hg hT)⟩
    · rename_i hT
      exact ⟨_, _, h, .quiet (fdN_ok hg hT)⟩
    · cases h
  · obtain ⟨g1, h1, h⟩ := opdK_t h
    obtain ⟨g2, h2, h⟩ := opdK_t h
    split at h
    · rename_i hu
      split at h
      · rename_i hT
        exact ⟨_, _, h, .quiet (ixs_ok h1 h2 hu hT)⟩
      · cases h
    · rename_i hu
      split at h
      · rename_i hT
        exact ⟨_, _, h, .quiet (ixa_ok h1 h2 hu hT)⟩
      · cases h
    · cases h
  · obtain ⟨g1, h1, h⟩ := opdK_t h
    obtain ⟨g2, h2, h⟩ := opdK_t h
    split at h
    · rename_i hu
      split at h
      · rename_i hT
        exact ⟨_, _, h, .quiet (ixv1_ok h1 h2 hu hT)⟩
      · rename_i hT
        exact ⟨_, _, h, .quiet (ixvN_ok h1 h2 hu hT)⟩
      · cases h
    · rename_i hu
      exact ⟨_, _, h, .quiet (ixt_ok h1 h2 hu)⟩
    · cases h
  · obtain ⟨g1, h1, h⟩ := opdK_t h
    obtain ⟨g2, h2, h⟩ := opdK_t h
    obtain ⟨kt, et, ke, hu, hf, h⟩ := keyK_fit h
    split at h
    · rename_i hu2
      rw [hu] at hu2
      injection hu2 with hu2
      injection hu2 with hu2 hu3
      subst hu2 hu3
      split at h
      · rename_i hz
        obtain ⟨zv, h, hzv⟩ := avK_t h
        obtain ⟨val, h3, h4, h5⟩ := lk_ok hu hf h1 h2 hz hzv
        split at h
        · exact ⟨_, _, h, .read h3 h5⟩
        · exact ⟨_, _, h, .read h3 h4⟩
      · cases h
    · cases h
  · obtain ⟨g1, h1, h⟩ := opdK_t h
    obtain ⟨g2, h2, h⟩ := opdK_t h
    obtain ⟨g3, h3, h⟩ := opdK_t h
    obtain ⟨kt, et, ke, hu, hf, h⟩ := keyK_fit h
    exact ⟨_, _, h, .w (mup_ok hu hf h1 h2 h3).1⟩
  · obtain ⟨g1, h1, h⟩ := opdK_t h
    obtain ⟨g2, h2, h⟩ := opdK_t h
    obtain ⟨g3, h3, h⟩ := opdK_t h
    obtain ⟨kt, et, ke, hu, hf, h⟩ := keyK_fit h
    exact ⟨_, _, h, .w (mup_ok hu hf h1 h2 h3).2⟩
  · obtain ⟨g1, h1, h⟩ := opdK_t h
    obtain ⟨g2, h2, h⟩ := opdK_t h
    obtain ⟨kt, et, ke, hu, hf, h⟩ := keyK_fit h
    split at h
    · rename_i hu2
      rw [hu] at hu2
      injection hu2 with hu2
      injection hu2 with hu2 hu3
      subst hu2 hu3
      split at h
      · rename_i hz
        obtain ⟨zv, h, hzv⟩ := avK_t h
        exact ⟨_, _, h, .w (me_ok hu hf h1 h2 hz hzv)⟩
      · cases h
    · cases h
  · obtain ⟨g1, h1, h⟩ := opdK_t h
    obtain ⟨g2, h2, h⟩ := opdK_t h
    obtain ⟨g3, h3, h⟩ := opdK_t h
    obtain ⟨kt, et, ke, hu, hf, h⟩ := keyK_fit h
    exact ⟨_, _, h, .w (es_ok hu hf h1 h2 h3)⟩
  · obtain ⟨g, hg, h⟩ := opdK_t h
    obtain ⟨kt, et, ke, hu, hf, h⟩ := keyK_fit h
    obtain ⟨hk, h⟩ := bi_f h
    exact ⟨_, _, h, .w (rng_ok hg hu (blt_t hk))⟩
  · obtain ⟨g, hg, h⟩ := opdK_t h
    exact ⟨_, _, h, .w (nx_ok hg)⟩
  · obtain ⟨g, hg, h⟩ := opdK_t h
    exact ⟨_, _, h, .w (en_ok hg)⟩
  · obtain ⟨g, hg, h⟩ := opdK_t h
    exact ⟨_, _, h, .quiet (ext_ok hg)⟩
  · have h : posK _ _ = true := h
    rw [posK_eq] at h
    obtain ⟨gs, h1, h⟩ := opdsK_t h
    exact ⟨_, _, h, .w (by simpa using callG_ok h1)⟩
  · obtain ⟨g, hg, h⟩ := opdK_t h
    obtain ⟨gs, h1, h⟩ := opdsK_t h
    split at h
    · exact ⟨_, _, h, .w (by simpa using callD_ok hg h1)⟩
    · refine ⟨_, _, h, .loud (by simpa using call_ok hg h1) fun e => by cases e⟩
  · obtain ⟨g, hg, h⟩ := opdK_t h
    obtain ⟨gs, h1, h⟩ := opdsK_t h
    obtain ⟨m, h, hm⟩ := methsK_t h
    exact ⟨_, _, h, .w (by simpa using inv_ok hg h1 hm)⟩
  · obtain ⟨g, hg, h⟩ := opdK_t h
    split at h
    · rename_i hu
      exact ⟨_, _, h, .quiet (lenS_ok hg hu)⟩
    · rename_i hu
      exact ⟨_, _, h, .quiet (lenT_ok hg hu)⟩
    · rename_i hu
      obtain ⟨val, h1, h2⟩ := lenM_ok hg hu
      exact ⟨_, _, h, .read h1 h2⟩
    · cases h
  · obtain ⟨g1, h1, h⟩ := opdK_t h
    obtain ⟨g2, h2, h⟩ := opdK_t h
    obtain ⟨he, h8⟩ := bi_f h
    clear h
    have he := beq_t he
    subst he
    split at h8
    · rename_i hu
      split at h8
      · rename_i hT hb hz
        obtain ⟨hs, h9⟩ := bi_f h8
        obtain ⟨hl, h10⟩ := bi_f h9
        exact ⟨_, _, h10, .w (app_ok hu hT hb hz (ble_t hs) (beq_t hl) h1 h2)⟩
      · cases h8
    · cases h8
  · obtain ⟨g1, h1, h⟩ := opdK_t h
    obtain ⟨g2, h2, h⟩ := opdK_t h
    obtain ⟨kt, et, ke, hu, hf, h⟩ := keyK_fit h
    exact ⟨_, _, h, .w (del_ok hu hf h1 h2)⟩
  · obtain ⟨g1, h1, h⟩ := opdK_t h
    obtain ⟨g2, h2, h⟩ := opdK_t h
    split at h
    · exact ⟨_, _, h, .quiet (nMax_ok h1 h2).1⟩
    · cases h
  · obtain ⟨g1, h1, h⟩ := opdK_t h
    obtain ⟨g2, h2, h⟩ := opdK_t h
    split at h
    · exact ⟨_, _, h, .quiet (nMax_ok h1 h2).2⟩
    · cases h
  · cases h
theorem copA_t {dr : Bool} {op : Op} {k : KO} (ha : allocOp op = true) (h : copK P n dr op k = true) : ∃ f kd, k f kd = true ∧ WOk P n op f ∧ AOk P n op f := by
  cases op <;> first | (cases ha; done) | skip
  case alloc t =>
    have h : (zerosK P t fun z => k (opAlloc z t) .loud) = true := h
    obtain ⟨zl, zv, h1, h2, h⟩ := zerosK_t h
    exact ⟨_, _, h, alloc_ok h1 h2, alloc_aok h1 h2⟩
  case box t x =>
    have h : (opdK n x fun g => k (opBox t g) .loud) = true := h
    obtain ⟨g, hg, h⟩ := opdK_t h
    exact ⟨_, _, h, box_ok hg, box_aok hg⟩
  case buildSlice t len ps =>
    have h : (match P.underlying t with
      | some (.slice e) => (match tyOf P e, zeroVal P e with
        | some (_, s), some _ => bi (Nat.ble (Nat.mul len s) 16777216) (bi (Nat.ble 1 s) (seqK n s 0 ps.toList fun c b => bi (Nat.beq c len) (k (opBsl e len b) .loud) false) false) false
        | _, _ => false)
      | _ => false) = true := h
    split at h
    · rename_i hu
      split at h
      · rename_i hT hz
        obtain ⟨h1, h⟩ := bi_f h
        obtain ⟨h2, h⟩ := bi_f h
        obtain ⟨b, h3, h, h4⟩ := seqK_t h
        obtain ⟨h5, h⟩ := bi_f h
        have h5 := beq_t h5
        exact ⟨_, _, h, bsl_ok hu hT hz h3 (fun j p e => by simpa using h4 j p e) (by simpa using h5) (ble_t h1), bsl_aok hu hT hz h3 (fun j p e => by simpa using h4 j p e) (by simpa using h5) (ble_t h1)⟩
      · cases h
    · cases h
end
end Go.Rc
namespace Go.Rc
open Go Go.Sym
section
variable {P : Program}
theorem Rounds.mono {l : Nat} {g : FuncId} {tm : Array Value} {ac bd : Code} {w : World} {Φ Ψ : Value → World → Prop} (h : Rounds P l g tm ac bd w Φ) (hi : ∀ x w', Φ x w' → Ψ x w') : Rounds P l g tm ac bd w Ψ := fun c cs => by
  obtain ⟨x, w', h1, h2⟩ := h c cs
  exact ⟨x, w', hi _ _ h1, h2⟩
theorem OpW.mono {o : Oper} {a : Act} {w : World} {Φ Ψ : Value → World → Prop} (h : OpW P o a w Φ) (hi : ∀ x w', Φ x w' → Ψ x w') : OpW P o a w Ψ := by
  rcases h with ⟨x, w', h1, h2⟩ | ⟨w', h1, h2⟩ | ⟨g, args, w1, h1, h2⟩
  · exact .inl ⟨x, w', h1, hi _ _ h2⟩
  · exact .inr (.inl ⟨w', h1, hi _ _ h2⟩)
  · exact .inr (.inr ⟨g, args, w1, h1, h2.mono fun e w' ⟨x, h3, h4⟩ => ⟨x, h3, hi _ _ h4⟩⟩)
theorem OpR.mono {o : Oper} {a : Act} {w : World} {Φ Ψ : Value → World → Prop} (h : OpR P o a w Φ) (hi : ∀ x w', Φ x w' → Ψ x w') : OpR P o a w Ψ := by
  rcases h with h | ⟨l, g, tm, ac, bd, h1, h2⟩
  · exact .inl (h.mono hi)
  · exact .inr ⟨l, g, tm, ac, bd, h1, h2.mono hi⟩
variable {b : Frame} {a : Act} {k : List Item} {cs : List Frame} {w : World} {ops : Array Oper}
theorem op_steps {i : Nat} {rest : List Nat} {o : Oper} (ho : ops[i]? = some o) (hw : Region.wanted o (yielded ops a.tmps) = true) (hd : ∀ c, o.op ≠ .defer c) {Φ : Value → World → Prop} (h : OpR P o a w Φ) :
    ∃ x w', Φ x w' ∧ Steps P (lone (b.atR a (.inRegion ops (i :: rest) :: k)) cs w) (lone (b.atR (a.put o.dst x) (.inRegion ops rest :: k)) cs w') := by
  have hg := stepGR_op (P := P) (b := b) (k := k) (cs := cs) (w := w) (rest := rest) ho hw
  rw [Oper.semAt_eq _ _ _ hd] at hg
  have hfin : ∀ v, (b.atR a (.inRegion ops (i :: rest) :: k)).finish v = b.atR (a.put o.dst v) (.inRegion ops rest :: k) := by
    intro v; rw [Frame.finish_atR, ho]; rfl
  rcases h with (⟨x, w', hr, hx⟩ | ⟨w', hr, hx⟩ | ⟨g, args, w1, hr, hc⟩) | ⟨l, g, tm, ac, bd, hr, hc⟩
  · refine ⟨x, w', hx, .one (step_lone_go ?_)⟩
    rw [hg, ← hfin]; simp [stepG.apply, hr]
  · refine ⟨undef, w', hx, .one (step_lone_go ?_)⟩
    rw [hg, ← hfin]; simp [stepG.apply, hr]
  · obtain ⟨e, w'', fr, hR, hsteps, _, hleave⟩ := hc (b.atR a (.inRegion ops (i :: rest) :: k) :: cs)
    obtain ⟨x, rfl, hx⟩ := hR
    have henter : step P (lone (b.atR a (.inRegion ops (i :: rest) :: k)) cs w) = .next (lone (Frame.enter P g args .normal) (b.atR a (.inRegion ops (i :: rest) :: k) :: cs) w1) :=
      step_lone_go (by rw [hg]; simp [stepG.apply, hr, Frame.atR])
    refine ⟨x, w'', hx, .head henter (Steps.trans hsteps (.one ?_))⟩
    rw [← hfin]; exact step_leave_returned hleave
  · obtain ⟨x, w'', hx, hs⟩ := hc (b.atR a (.inRegion ops (i :: rest) :: k)) cs
    have henter : step P (lone (b.atR a (.inRegion ops (i :: rest) :: k)) cs w) = .next (lone (Frame.round l g tm ac bd .normal) (b.atR a (.inRegion ops (i :: rest) :: k) :: cs) w) :=
      step_lone_go (by rw [hg]; simp [stepG.apply, hr, Frame.atR])
    refine ⟨x, w'', hx, .head henter ?_⟩
    rw [← hfin]; exact hs
end
/-- operations of a region, in the order l -/
abbrev OpP := Oper → Act → World → (Value → World → Prop) → Prop
def stepX (W : OpP) (ops : Array Oper) (o : Oper) (a : Act) (w : World) (Φ : Act → World → Prop) : Prop :=
  (∀ c, o.op ≠ .defer c) ∧ ((Region.wanted o (yielded ops a.tmps) = true ∧ W o a w fun x w' => Φ (a.put o.dst x) w') ∨ (Region.wanted o (yielded ops a.tmps) = false ∧ Φ (a.put o.dst undef) w))
def runL (W : OpP) (ops : Array Oper) (Φ : Act → World → Prop) : List Nat → Act → World → Prop
  | [], a, w => Φ a w
  | i :: l, a, w => match ops[i]? with
    | none => runL W ops Φ l a w
    | some o => stepX W ops o a w (runL W ops Φ l)
theorem runL_steps {P : Program} {ops : Array Oper} {Φ : Act → World → Prop} {b : Frame} {k : List Item} {cs : List Frame} : ∀ (l : List Nat) (a : Act) (w : World), runL (OpR P) ops Φ l a w →
    ∃ a' w', Φ a' w' ∧ Steps P (lone (b.atR a (.inRegion ops l :: k)) cs w) (lone (b.atR a' k) cs w')
  | [], a, w, h => ⟨a, w, h, .one stepR_region_end⟩
  | i :: l, a, w, h => by
    unfold runL at h
    cases ho : ops[i]? with
    | none =>
      rw [ho] at h
      obtain ⟨a', w', h1, h2⟩ := runL_steps l a w h
      have hs := stepR_op_skip (P := P) (b := b) (a := a) (k := k) (cs := cs) (w := w) (ops := ops) (i := i) (rest := l) (by simp [ho])
      simp only [ho, Option.bind_none, Act.put] at hs
      exact ⟨a', w', h1, .head hs h2⟩
    | some o =>
      rw [ho] at h
      obtain ⟨hd, ⟨hw, h⟩ | ⟨hw, h⟩⟩ := h
      · obtain ⟨x, w1, h1, h2⟩ := op_steps (b := b) (k := k) (cs := cs) (rest := l) ho hw hd h
        obtain ⟨a', w', h3, h4⟩ := runL_steps l _ _ h1
        exact ⟨a', w', h3, Steps.trans h2 h4⟩
      · obtain ⟨a', w', h1, h2⟩ := runL_steps l _ w h
        have hs := stepR_op_skip (P := P) (b := b) (a := a) (k := k) (cs := cs) (w := w) (ops := ops) (i := i) (rest := l) (by simp [ho, hw])
        simp only [ho, Option.bind_some] at hs
        exact ⟨a', w', h1, .head hs h2⟩
/-! ### guards, destinations -/
def GdOk (n : Nat) (ops : Array Oper) (o : Oper) (gd : Option (G × Bool)) : Prop :=
  (o.guard = none ∧ gd = none) ∨ ∃ j w dj g, o.guard = some (j, w) ∧ (ops[j]?).bind (·.dst) = some dj ∧ dj < n ∧ gd = some (g, w) ∧ ∀ fr k, g fr k = true → k (fr.at (posOf dj)) = true
theorem gdK_t {n : Nat} {ops : Array Oper} {o : Oper} {k : Option (G × Bool) → Bool} (h : gdK n ops o k = true) : ∃ gd, GdOk n ops o gd ∧ k gd = true := by
  unfold gdK at h
  split at h
  · rename_i hg
    exact ⟨none, .inl ⟨hg, rfl⟩, h⟩
  · rename_i j w hg
    split at h
    · cases h
    · rename_i dj hd
      obtain ⟨h1, h2⟩ := bi_f h
      rw [posK_eq, gPosK_eq] at h2
      exact ⟨_, .inr ⟨j, w, dj, _, hg, hd, blt_t h1, rfl, fun fr k h => gPos_t _ h⟩, h2⟩
def DstOk (n : Nat) (d : Option Tmp) (s : Option S) : Prop :=
  (d = none ∧ s = none) ∨ ∃ t r, d = some t ∧ t < n ∧ s = some r ∧ ∀ v fr k, r v fr k = true → k (fr.set v (posOf t)) = true
theorem dstK_t {n : Nat} {d : Option Tmp} {k : Option S → Bool} (h : dstK n d k = true) : ∃ s, DstOk n d s ∧ k s = true := by
  cases d with
  | none => exact ⟨none, .inl ⟨rfl, rfl⟩, h⟩
  | some t =>
    obtain ⟨h1, h2⟩ := bi_f (b := Nat.blt t n) h
    rw [posK_eq, sPosK_eq] at h2
    exact ⟨_, .inr ⟨t, _, rfl, blt_t h1, rfl, fun v fr k h => by rwa [sPos_eq] at h⟩, h2⟩
theorem wanted_none {ops : Array Oper} {o : Oper} {a : Act} (h : o.guard = none) : Region.wanted o (yielded ops a.tmps) = true := by simp [Region.wanted, h]
theorem onGd_t {w : Bool} {v : V} {yes no : Bool} (h : onGd w v yes no = true) {σ : Sg} {x : Value} (hr : Rel σ v x) : (x = .bool w ∧ yes = true) ∨ ((∀ u, x = .bool u → u ≠ w) ∧ no = true) := by
  obtain ⟨g, a, b, d, p, l, r, rfl, h1⟩ := onC_t h
  rcases bi_t h1 with ⟨hg, h2⟩ | ⟨hg, h2⟩
  · have hg := beq_t hg
    subst hg
    obtain ⟨y, rfl, hy⟩ := hr.c0
    rcases bi_t h2 with ⟨h3, h4⟩ | ⟨h3, h4⟩
    · have h3 := beq_t h3
      subst hy
      refine .inl ⟨?_, h4⟩
      cases y <;> cases w <;> first | rfl | cases h3
    · have h3 := beq_f h3
      subst hy
      refine .inr ⟨fun u hu => ?_, h4⟩
      injection hu with hu
      subst hu
      intro hw
      subst hw
      cases y <;> exact h3 rfl
  · obtain ⟨h3, h4⟩ := bi_f h2
    have h3 := beq_t h3
    subst h3
    obtain ⟨vl, rfl, _⟩ := hr.c14
    rcases onL_t h4 with ⟨_, h5⟩ | ⟨_, _, _, _, _, _, _, _, h5⟩
    · exact .inr ⟨fun u hu => (by cases hu), h5⟩
    · cases h5
theorem wanted_some {n : Nat} {ops : Array Oper} {o : Oper} {a : Act} {j dj : Nat} {w : Bool} (hg : o.guard = some (j, w)) (hd : (ops[j]?).bind (·.dst) = some dj) (hn : dj < n) (hs : a.tmps.size = n) :
    (a.tmps.getD dj undef = .bool w → Region.wanted o (yielded ops a.tmps) = true) ∧ ((∀ u, a.tmps.getD dj undef = .bool u → u ≠ w) → Region.wanted o (yielded ops a.tmps) = false) := by
  have hlt : dj < a.tmps.size := by omega
  have hg2 : a.tmps.getD dj undef = a.tmps[dj] := by simp [hlt]
  have hy : yielded ops a.tmps j = match a.tmps.getD dj undef with | .bool b => some b | _ => none := by
    rw [hg2]
    unfold yielded
    rw [hd]
    simp only [Option.bind_some, Array.getElem?_eq_getElem hlt]
    cases a.tmps[dj] <;> rfl
  constructor
  · intro h
    simp [Region.wanted, hg, hy, h]
  · intro h
    simp only [Region.wanted, hg, hy]
    cases hv : a.tmps.getD dj undef <;> simp
    rename_i u
    exact h u hv
end Go.Rc
namespace Go.Rc
open Go Go.Sym
def Aft (P : Program) (E : Env) (R : List Blk) (σ : Sg) (h : Hp) (w : World) (n : Nat) (ds : List Deferred) (kf : T → Hp → Bool) : Act → World → Prop := fun a' w' => ∃ fr' h' σ', kf fr' h' = true ∧ FrOk σ' n fr' a' ∧ Step P E R σ h w σ' h' w' ∧ a'.defers = ds
section
variable {P : Program} {n : Nat} {ops : Array Oper}
theorem Aft.trans {E : Env} {R : List Blk} {σ σ' : Sg} {h h' : Hp} {w w' : World} {ds : List Deferred} {kf : T → Hp → Bool} (s : Step P E R σ h w σ' h' w') {a : Act} {v : World} (H : Aft P E R σ' h' w' n ds kf a v) : Aft P E R σ h w n ds kf a v := by
  obtain ⟨fr1, h1, σ1, e1, e2, e3, e4⟩ := H
  exact ⟨fr1, h1, σ1, e1, e2, s.trans e3, e4⟩
def MonoP (W : OpP) : Prop := ∀ o a w Φ Ψ, W o a w Φ → (∀ x w', Φ x w' → Ψ x w') → W o a w Ψ
theorem monoW : MonoP (OpW P) := fun _ _ _ _ _ h hi => h.mono hi
theorem monoR : MonoP (OpR P) := fun _ _ _ _ _ h hi => h.mono hi
theorem stepX.mono {W : OpP} (hW : MonoP W) {o : Oper} {a : Act} {w : World} {Φ Ψ : Act → World → Prop} (h : stepX W ops o a w Φ) (hi : ∀ a w, Φ a w → Ψ a w) : stepX W ops o a w Ψ := by
  obtain ⟨hd, ⟨hw, h⟩ | ⟨hw, h⟩⟩ := h
  · exact ⟨hd, .inl ⟨hw, hW _ _ _ _ _ h fun x w' => hi _ _⟩⟩
  · exact ⟨hd, .inr ⟨hw, hi _ _ h⟩⟩
theorem runL.mono {W : OpP} (hW : MonoP W) {Φ Ψ : Act → World → Prop} (hi : ∀ a w, Φ a w → Ψ a w) : ∀ (l : List Nat) (a : Act) (w : World), runL W ops Φ l a w → runL W ops Ψ l a w
  | [], a, w, h => hi _ _ h
  | i :: l, a, w, h => by
    unfold runL at h ⊢
    cases ho : ops[i]? with
    | none => rw [ho] at h; exact runL.mono hW hi l a w h
    | some o => rw [ho] at h; exact stepX.mono hW h fun a w h => runL.mono hW hi l a w h
noncomputable def dput (s : Option S) (v : V) (fr : T) (k : T → Bool) : Bool := match s with
  | some s => s v fr k
  | none => k fr
/-- one operation, guard and destination and all -/
theorem one_ok {W : OpP} (hW : MonoP W) {f : OpF} {o : Oper} {s : Option S} {gd : Option (G × Bool)} (hd : DstOk n o.dst s) (hg : GdOk n ops o gd) (hnd : ∀ c, o.op ≠ .defer c)
    (hf : ∀ cf rb fr h k E R σ a w, CfOk P cf → RbOk P rb σ → f cf rb fr h k = true → FrOk σ n fr a → HR P E R σ h w → W o a w (Good P E R σ h w k))
    {r : RgF} {cf : Cf} {rb : RB} {fr : T} {h : Hp} {x : X} {kf : KF} {E : Env} {R : List Blk} {σ : Sg} {a : Act} {w : World} (hcf : CfOk P cf) (hrb : RbOk P rb σ) (e : rMk f s gd r cf rb fr h x kf = true) (hfr : FrOk σ n fr a) (H : HR P E R σ h w) :
    stepX W ops o a w (Aft P E R σ h w n a.defers fun fr' h' => r cf rb fr' h' x kf) := by
  -- a value put into the destination
  have put : ∀ {v : V} {x1 : Value} {σ' : Sg} {h' : Hp} {w' : World}, (dput s v fr fun fr' => r cf rb fr' h' x kf) = true → Rel σ' v x1 → Step P E R σ h w σ' h' w' → Aft P E R σ h w n a.defers (fun fr' h' => r cf rb fr' h' x kf) (a.put o.dst x1) w' := fun {v x1 σ' h' w'} e1 hr hs => by
    rcases hd with ⟨hd1, rfl⟩ | ⟨t, rr, hd1, ht, rfl, hput⟩
    · rw [hd1]
      exact ⟨fr, h', σ', e1, hfr.mono hs.ext, hs, rfl⟩
    · rw [hd1]
      exact ⟨_, h', σ', hput _ _ _ e1, (hfr.mono hs.ext).put ht hr, hs, rfl⟩
  have carry : ∀ {e1 : Bool}, (f cf rb fr h fun v h' => dput s v fr fun fr' => r cf rb fr' h' x kf) = true → W o a w fun x1 w' => Aft P E R σ h w n a.defers (fun fr' h' => r cf rb fr' h' x kf) (a.put o.dst x1) w' := fun {_} e1 => by
    refine hW _ _ _ _ _ (hf _ _ _ _ _ _ _ _ _ _ hcf hrb e1 hfr H) fun x1 w' hgood => ?_
    obtain ⟨v, σ', h', e2, hr, hs⟩ := hgood
    exact put e2 hr hs
  refine ⟨hnd, ?_⟩
  rcases hg with ⟨hg1, rfl⟩ | ⟨j, wn, dj, g, hg1, hg2, hg3, rfl, hg4⟩
  · refine .inl ⟨wanted_none hg1, carry (e1 := true) ?_⟩
    cases s <;> exact e
  · obtain ⟨h1, h2⟩ := wanted_some (o := o) (w := wn) hg1 hg2 hg3 hfr.size
    cases s with
    | none =>
      have e2 : (g fr fun c => onGd wn c (f cf rb fr h fun _ h' => r cf rb fr h' x kf) (r cf rb fr h x kf)) = true := e
      rcases onGd_t (hg4 _ _ e2) (hfr.get dj) with ⟨h3, h4⟩ | ⟨h3, h4⟩
      · exact .inl ⟨h1 h3, carry (e1 := true) h4⟩
      · exact .inr ⟨h2 h3, put (v := vUndef) h4 (.undef σ) (.refl H)⟩
    | some s =>
      have e2 : (g fr fun c => onGd wn c (f cf rb fr h fun v h' => s v fr fun fr' => r cf rb fr' h' x kf) (s vUndef fr fun fr' => r cf rb fr' h x kf)) = true := e
      rcases onGd_t (hg4 _ _ e2) (hfr.get dj) with ⟨h3, h4⟩ | ⟨h3, h4⟩
      · exact .inl ⟨h1 h3, carry (e1 := true) h4⟩
      · exact .inr ⟨h2 h3, put (v := vUndef) h4 (.undef σ) (.refl H)⟩
theorem copK_nd {dr : Bool} {op : Op} {k : KO} (h : copK P n dr op k = true) : ∀ c, op ≠ .defer c := fun c e => by subst e; cases h
structure RegOk (P : Program) (n : Nat) (ops : Array Oper) (l : List Nat) (r : RgF) : Prop where
  ok : ∀ cf rb fr h x kf E R σ a w, CfOk P cf → RbOk P rb σ → r cf rb fr h x kf = true → FrOk σ n fr a → HR P E R σ h w → runL (OpR P) ops (Aft P E R σ h w n a.defers fun fr' h' => kf fr' h' x) l a w
theorem OpSpec.o {dr : Bool} {op : Op} {f : OpF} {kd : Kd} (h : OpSpec P n dr op f kd) : OOp P n op f := by
  cases h with
  | quiet h => exact h.w.o
  | read _ h => exact h.w.o
  | loud h _ => exact h
theorem OpSpec.w' {op : Op} {f : OpF} {kd : Kd} (h : OpSpec P n true op f kd) : WOk P n op f := by
  cases h with
  | quiet h => exact h.w
  | read _ h => exact h.w
  | loud _ h => exact h rfl
theorem regK_t : ∀ {l : List Oper} {i : Nat} {k : RgF → Bool}, (∀ j o, l[j]? = some o → ops[i + j]? = some o) → regK P n ops l k = true → ∃ r, RegOk P n ops (List.range' i l.length) r ∧ k r = true
  | [], i, k, _, h => ⟨rNil, ⟨fun cf rb fr hp x kf E R σ a w _ _ e hf H => ⟨fr, hp, σ, e, hf, .refl H, rfl⟩⟩, h⟩
  | o :: l, i, k, hl, h => by
    unfold regK at h
    have hnd := copK_nd h
    obtain ⟨f, kd, h1, hs⟩ := copK_t h
    obtain ⟨s, hd, h2⟩ := dstK_t h1
    obtain ⟨gd, hg, h3⟩ := gdK_t h2
    obtain ⟨r, hr, h4⟩ := regK_t (i := i + 1) (fun j o' hj => by have := hl (j + 1) o' (by simpa using hj); rwa [show i + (j + 1) = i + 1 + j by omega] at this) h3
    have ho : ops[i]? = some o := hl 0 o rfl
    have hk : k (rMk f s gd r) = true := by
      cases gd with
      | none => cases s <;> exact h4
      | some gw => obtain ⟨g, w⟩ := gw; cases s <;> exact h4
    refine ⟨_, ⟨fun cf rb fr hp x kf E R σ a w hcf hrb e hfr H => ?_⟩, hk⟩
    rw [List.length_cons, List.range'_succ]
    unfold runL
    rw [ho]
    refine stepX.mono monoR (one_ok monoR hd hg hnd (fun cf rb fr h k E R σ a w q1 q2 q3 q4 q5 => hs.o.ok cf rb fr h k E R σ a w o rfl q1 q2 q3 q4 q5) hcf hrb e hfr H) fun a' w' h5 => ?_
    obtain ⟨fr', h', σ', e1, hf1, hs1, hd1⟩ := h5
    refine runL.mono monoR (fun a v hq => Aft.trans hs1 hq) _ _ _ ?_
    rw [← hd1]
    exact hr.ok cf rb fr' h' x kf E R σ' a' w' hcf (hrb.mono hs1.ext) e1 hf1 hs1.hr
end
end Go.Rc
namespace Go.Rc
open Go Go.Sym
section
variable {P : Program} {n : Nat} {ops : Array Oper} {bf : Array Nat} {Q : Act → World → Prop}
abbrev Sl := List (Nat × Nat × Option Obj)
def wpD (P : Program) (ops : Array Oper) (j : Nat) (K : Act → World → Prop) (a : Act) (w : World) : Prop := match ops[j]? with
  | none => K a w
  | some o => stepX (OpW P) ops o a w K
theorem wpD.mono {j : Nat} {K K' : Act → World → Prop} {a : Act} {w : World} (h : wpD P ops j K a w) (hi : ∀ a w, K a w → K' a w) : wpD P ops j K' a w := by
  unfold wpD at *
  cases ho : ops[j]? with
  | none => rw [ho] at h; exact hi _ _ h
  | some o => rw [ho] at h; exact stepX.mono monoW h hi
def holds (Ss : Sl) (w : World) : Prop := ∀ s ∈ Ss, w.heap[s.2.1]? = s.2.2
def bfr (bf : Array Nat) (i j : Nat) : Bool := (bf.getD j 0).testBit i
def anyD (P : Program) (ops : Array Oper) (bf : Array Nat) (Q : Act → World → Prop) : Nat → Array Bool → Sl → Act → World → Prop
  | 0, listed, _, a, w => Region.ready .any ops listed = [] ∧ Q a w
  | fu + 1, listed, Ss, a, w => (Region.ready .any ops listed = [] → Q a w) ∧
    ∀ j ∈ Region.ready .any ops listed, wpD P ops j (fun a' w' => holds (Ss.filter fun s => !bfr bf s.1 j) w' ∧ anyD P ops bf Q fu (listed.setIfInBounds j true) (Ss.filter fun s => !bfr bf s.1 j) a' w') a w
theorem anyD.mono {Q' : Act → World → Prop} (hi : ∀ a w, Q a w → Q' a w) : ∀ (fu : Nat) (listed : Array Bool) (Ss : Sl) (a : Act) (w : World), anyD P ops bf Q fu listed Ss a w → anyD P ops bf Q' fu listed Ss a w
  | 0, _, _, _, _, h => ⟨h.1, hi _ _ h.2⟩
  | fu + 1, _, _, _, _, h => ⟨fun e => hi _ _ (h.1 e), fun j hj => (h.2 j hj).mono fun a w h => ⟨h.1, anyD.mono hi fu _ _ a w h.2⟩⟩
theorem anyD.sub : ∀ (fu : Nat) (listed : Array Bool) (Ss Ss' : Sl) (a : Act) (w : World), (∀ s ∈ Ss', s ∈ Ss) → anyD P ops bf Q fu listed Ss a w → anyD P ops bf Q fu listed Ss' a w
  | 0, _, _, _, _, _, _, h => h
  | fu + 1, _, Ss, Ss', _, _, hs, h => ⟨h.1, fun j hj => (h.2 j hj).mono fun a w h1 => by
    have hs2 : ∀ s ∈ Ss'.filter fun s => !bfr bf s.1 j, s ∈ Ss.filter fun s => !bfr bf s.1 j := fun s hm => by
      rw [List.mem_filter] at hm ⊢
      exact ⟨hs s hm.1, hm.2⟩
    exact ⟨fun s hm => h1.1 s (hs2 s hm), anyD.sub fu _ _ _ a w hs2 h1.2⟩⟩
theorem anyD_sound : ∀ (fu t : Nat) (listed : Array Bool) (Ss : Sl) (a : Act) (w : World), anyD P ops bf Q fu listed Ss a w → runL (OpW P) ops Q (Region.linearise.go .any ops fu t listed []) a w := by
  intro fu
  induction fu with
  | zero => intro t listed Ss a w h; simpa [Region.linearise.go, runL] using h.2
  | succ fu ih =>
    intro t listed Ss a w h
    obtain ⟨h₀, h₁⟩ := h
    simp only [Region.linearise.go]
    change runL (OpW P) ops Q (match (Region.ready .any ops listed)[t % (Region.ready .any ops listed).length]? with
      | some i => Region.linearise.go .any ops fu (t / (Region.ready .any ops listed).length) (listed.setIfInBounds i true) [i]
      | none => [].reverse) a w
    cases hi : (Region.ready .any ops listed)[t % (Region.ready .any ops listed).length]? with
    | none =>
      have hnil : Region.ready .any ops listed = [] := by
        cases hr : Region.ready .any ops listed with
        | nil => rfl
        | cons x xs =>
          rw [hr] at hi
          have hlt : t % (x :: xs).length < (x :: xs).length := Nat.mod_lt _ (by simp)
          simp at hi
          simp at hlt
          omega
      simpa [runL] using h₀ hnil
    | some i =>
      simp only []
      rw [linearise_go_acc, List.reverse_singleton, List.singleton_append]
      have h2 := h₁ i (List.mem_of_getElem? hi)
      unfold runL
      unfold wpD at h2
      cases ho : ops[i]? with
      | none => rw [ho] at h2; exact ih _ _ _ _ _ h2.2
      | some o => rw [ho] at h2; exact stepX.mono monoW h2 fun a w h3 => ih _ _ _ _ _ h3.2
/-! ### what comes before what -/
def closed (ops : Array Oper) (listed : Array Bool) : Prop := ∀ (m : Nat) (om : Oper), ops[m]? = some om → listed.getD m false = true → ∀ e ∈ om.after, Region.binds .any e = true → listed.getD e.on false = true
def bits (o : Oper) (acc : Array Nat) : Nat := o.after.foldl (fun s e => if Region.binds .any e then s ||| 2 ^ e.on ||| acc.getD e.on 0 else s) 0
theorem bits_spec {o : Oper} {acc : Array Nat} {i : Nat} (h : (bits o acc).testBit i = true) : ∃ e ∈ o.after, Region.binds .any e = true ∧ (e.on = i ∨ (acc.getD e.on 0).testBit i = true) := by
  unfold bits at h
  rw [← Array.foldl_toList] at h
  have key : ∀ (l : List Edge) (s : Nat), (l.foldl (fun s e => if Region.binds .any e then s ||| 2 ^ e.on ||| acc.getD e.on 0 else s) s).testBit i = true → s.testBit i = true ∨ ∃ e ∈ l, Region.binds .any e = true ∧ (e.on = i ∨ (acc.getD e.on 0).testBit i = true) := by
    intro l
    induction l with
    | nil => exact fun s h => .inl h
    | cons e l ih =>
      intro s h
      rw [List.foldl_cons] at h
      rcases ih _ h with h1 | ⟨e', h1, h2⟩
      · by_cases hb : Region.binds .any e = true
        · rw [if_pos hb, Nat.testBit_or, Nat.testBit_or, Nat.testBit_two_pow] at h1
          simp only [Bool.or_eq_true, decide_eq_true_eq] at h1
          rcases h1 with (h1 | h1) | h1
          · exact .inl h1
          · exact .inr ⟨e, by simp, hb, .inl h1⟩
          · exact .inr ⟨e, by simp, hb, .inr h1⟩
        · rw [if_neg hb] at h1
          exact .inl h1
      · exact .inr ⟨e', List.mem_cons_of_mem _ h1, h2⟩
  rcases key _ _ h with h1 | ⟨e, h1, h2⟩
  · simp at h1
  · exact ⟨e, by simpa using h1, h2⟩
/-- what an entry of 'before' tells -/
theorem before_spec {i : Nat} : ∀ (m : Nat), ((Region.before ops).getD m 0).testBit i = true → ∃ om, ops[m]? = some om ∧ ∃ e ∈ om.after, Region.binds .any e = true ∧ (e.on = i ∨ (e.on < m ∧ ((Region.before ops).getD e.on 0).testBit i = true)) := by
  have key : ∀ (l done : List Oper) (acc : Array Nat), done ++ l = ops.toList → acc.size = done.length →
      (∀ m, (acc.getD m 0).testBit i = true → ∃ om, ops[m]? = some om ∧ ∃ e ∈ om.after, Region.binds .any e = true ∧ (e.on = i ∨ (e.on < m ∧ (acc.getD e.on 0).testBit i = true))) →
      ∀ m, ((l.foldl (fun acc o => acc.push (bits o acc)) acc).getD m 0).testBit i = true → ∃ om, ops[m]? = some om ∧ ∃ e ∈ om.after, Region.binds .any e = true ∧ (e.on = i ∨ (e.on < m ∧ ((l.foldl (fun acc o => acc.push (bits o acc)) acc).getD e.on 0).testBit i = true)) := by
    intro l
    induction l with
    | nil => exact fun done acc _ _ h => h
    | cons o l ih =>
      intro done acc hdone hsize hacc
      rw [List.foldl_cons]
      refine ih (done ++ [o]) (acc.push (bits o acc)) (by simpa using hdone) (by simp [hsize]) fun m hm => ?_
      by_cases hlt : m < acc.size
      · have e1 : (acc.push (bits o acc)).getD m 0 = acc.getD m 0 := by simp [Array.getElem?_push, Nat.ne_of_lt hlt]
        rw [e1] at hm
        obtain ⟨om, h1, e, h2, h3, h4⟩ := hacc m hm
        refine ⟨om, h1, e, h2, h3, h4.imp id fun ⟨h5, h6⟩ => ⟨h5, ?_⟩⟩
        have : e.on ≠ acc.size := by omega
        simpa [Array.getElem?_push, this] using h6
      · by_cases heq : m = acc.size
        · subst heq
          have e1 : (acc.push (bits o acc)).getD acc.size 0 = bits o acc := by simp
          rw [e1] at hm
          obtain ⟨e, h2, h3, h4⟩ := bits_spec hm
          refine ⟨o, ?_, e, h2, h3, h4.imp id fun h5 => ?_⟩
          · have : ops.toList[acc.size]? = some o := by rw [← hdone, hsize]; simp
            simpa using this
          · have hlt : e.on < acc.size := by
              rcases Nat.lt_or_ge e.on acc.size with h | h
              · exact h
              · simp [Array.getElem?_eq_none h] at h5
            refine ⟨hlt, ?_⟩
            simpa [Array.getElem?_push, Nat.ne_of_lt hlt] using h5
        · have : (acc.push (bits o acc)).getD m 0 = 0 := by
            have : (acc.push (bits o acc)).size ≤ m := by simp; omega
            simp [Array.getElem?_eq_none this]
          rw [this] at hm
          simp at hm
  intro m hm
  have hb : Region.before ops = ops.toList.foldl (fun acc o => acc.push (bits o acc)) #[] := by
    unfold Region.before
    rw [← Array.foldl_toList]
    rfl
  rw [hb] at hm ⊢
  exact key ops.toList [] #[] rfl rfl (fun m h => by simp at h) m hm
theorem before_listed {i : Nat} {listed : Array Bool} (hc : closed ops listed) : ∀ (m : Nat), bfr (Region.before ops) i m = true → (∀ om, ops[m]? = some om → ∀ e ∈ om.after, Region.binds .any e = true → listed.getD e.on false = true) → listed.getD i false = true := by
  intro m
  induction m using Nat.strongRecOn with
  | ind m ih =>
    intro h hm
    obtain ⟨om, h1, e, h2, h3, h4⟩ := before_spec m h
    have h5 := hm om h1 e h2 h3
    rcases h4 with rfl | ⟨h6, h7⟩
    · exact h5
    · exact ih e.on h6 h7 fun oe hoe => hc e.on oe hoe h5
theorem closed.set {listed : Array Bool} (hc : closed ops listed) {j : Nat} (hj : j ∈ Region.ready .any ops listed) : closed ops (listed.setIfInBounds j true) := fun m om hm hl e he hb => by
  by_cases hjm : j = m
  · subst hjm
    obtain ⟨_, o, ho, hall⟩ := mem_ready.1 hj
    rw [hm] at ho
    injection ho with ho
    subst ho
    exact getD_set_true (hall e he hb)
  · rw [getD_set_ne false hjm] at hl
    exact getD_set_true (hc m om hm hl e he hb)
theorem not_before {listed : Array Bool} (hc : closed ops listed) {i j : Nat} (hi : i ∈ Region.ready .any ops listed) (hj : j ∈ Region.ready .any ops listed) : bfr (Region.before ops) i j = false := by
  cases hb : bfr (Region.before ops) i j with
  | false => rfl
  | true =>
    obtain ⟨_, o, ho, hall⟩ := mem_ready.1 hj
    have h1 := before_listed hc j hb fun om hom e he hbi => by
      rw [ho] at hom; injection hom with hom; subst hom; exact hall e he hbi
    have h0 := (mem_ready.1 hi).1
    rcases Nat.lt_or_ge i listed.size with h' | h'
    · simp [h'] at h0 h1; rw [h0] at h1; cases h1
    · simp [Array.getElem?_eq_none h'] at h1
/-! ### an operation that may be taken first -/
def Yld (P : Program) (ops : Array Oper) (Sn : Sl) (o : Oper) (v : Value) (a : Act) : Prop :=
  (∀ c, o.op ≠ .defer c) ∧ ((Region.wanted o (yielded ops a.tmps) = true ∧ ∀ w, holds Sn w → (execOp a.eval o).run P w = .ok (.value v) w) ∨ (Region.wanted o (yielded ops a.tmps) = false ∧ v = undef))
theorem Yld.wpD {Sn : Sl} {i : Nat} {o : Oper} {v : Value} {a : Act} (hi : ops[i]? = some o) (hy : Yld P ops Sn o v a) {K : Act → World → Prop} {w : World} (hS : holds Sn w) (h : K (a.put o.dst v) w) : wpD P ops i K a w := by
  unfold Rc.wpD
  rw [hi]
  obtain ⟨hd, ⟨hw, hv⟩ | ⟨hw, rfl⟩⟩ := hy
  · exact ⟨hd, .inl ⟨hw, .inl ⟨v, w, hv w hS, h⟩⟩⟩
  · exact ⟨hd, .inr ⟨hw, h⟩⟩
theorem Yld.of_same {Sn : Sl} {o : Oper} {v : Value} {a a' : Act} (hy : Yld P ops Sn o v a) (he : execOp a'.eval o = execOp a.eval o) (hw : Region.wanted o (yielded ops a'.tmps) = Region.wanted o (yielded ops a.tmps)) : Yld P ops Sn o v a' := by
  unfold Yld at *
  rw [he, hw]
  exact hy
theorem OpW.of_same {o : Oper} {a a' : Act} {w : World} {Φ : Value → World → Prop} (he : execOp a'.eval o = execOp a.eval o) (h : OpW P o a w Φ) : OpW P o a' w Φ := by
  unfold OpW at *
  rw [he]
  exact h
theorem wpD_put {Sn : Sl} {j : Nat} {oi oj : Oper} {v : Value} (hj : ops[j]? = some oj) (hap : oi.apart ops oj = true) (hsi : ∀ cs b, oi.op ≠ .select cs b) (hsj : ∀ cs b, oj.op ≠ .select cs b) {K : Act → World → Prop} {a : Act} {w : World}
    (hy : Yld P ops Sn oi v a) (h : wpD P ops j K (a.put oi.dst v) w) : wpD P ops j (fun a' w' => Yld P ops Sn oi v a' ∧ K (a'.put oi.dst v) w') a w := by
  obtain ⟨h1, h2, h3⟩ := Oper.apart_spec hap
  have keep : ∀ (a : Act), Yld P ops Sn oi v a → ∀ u, Yld P ops Sn oi v (a.put oj.dst u) := fun a hy u =>
    hy.of_same (execOp_put oi hsi a oj.dst u h3) (wanted_put oi a oj.dst u h3)
  unfold wpD at *
  simp only [hj] at *
  obtain ⟨hd, h⟩ := h
  rw [wanted_put oj a oi.dst v h1] at h
  refine ⟨hd, h.imp (fun ⟨hw, h4⟩ => ⟨hw, ?_⟩) fun ⟨hw, h4⟩ => ⟨hw, keep a hy _, by rw [← Act.put_comm a v undef h2]; exact h4⟩⟩
  refine OpW.of_same (execOp_put oj hsj a oi.dst v h1).symm (h4.mono fun x w' h5 => ⟨keep a hy x, ?_⟩)
  rw [← Act.put_comm a v x h2]
  exact h5
theorem anyD_first {Sn : Sl} {i : Nat} {oi : Oper} {v : Value} (hi : ops[i]? = some oi) (hsel : ∀ (j : Nat) (o : Oper) cs b, ops[j]? = some o → o.op ≠ .select cs b) (hSn : ∀ s ∈ Sn, s.1 = i) :
    ∀ (fu : Nat) (listed : Array Bool) (Ss : Sl) (a : Act) (w : World), closed ops listed →
      (∀ j oj, ops[j]? = some oj → j ≠ i → listed.getD j true = false → (∀ e ∈ oj.after, Region.binds .any e = true → e.on ≠ i) → oi.apart ops oj = true) →
      i ∈ Region.ready .any ops listed → Yld P ops Sn oi v a → holds Sn w → holds Ss w →
      anyD P ops (Region.before ops) Q fu (listed.setIfInBounds i true) (Sn ++ Ss) (a.put oi.dst v) w → anyD P ops (Region.before ops) Q (fu + 1) listed Ss a w := by
  have self : ∀ (fu : Nat) (listed : Array Bool) (Ss : Sl) (a : Act) (w : World), Yld P ops Sn oi v a → holds Sn w → holds Ss w → anyD P ops (Region.before ops) Q fu (listed.setIfInBounds i true) (Sn ++ Ss) (a.put oi.dst v) w →
      wpD P ops i (fun a' w' => holds (Ss.filter fun s => !bfr (Region.before ops) s.1 i) w' ∧ anyD P ops (Region.before ops) Q fu (listed.setIfInBounds i true) (Ss.filter fun s => !bfr (Region.before ops) s.1 i) a' w') a w := fun fu listed Ss a w hy hS hSs H =>
    hy.wpD hi hS ⟨fun s hs => hSs s (List.mem_filter.1 hs).1, H.sub _ _ _ _ _ _ fun s hs => List.mem_append_right _ (List.mem_filter.1 hs).1⟩
  intro fu
  induction fu with
  | zero =>
    intro listed Ss a w _ _ hr hy hS hSs H
    refine ⟨fun h => (by rw [h] at hr; cases hr), fun j hj => ?_⟩
    by_cases hji : j = i
    · subst hji; exact self _ _ _ _ _ hy hS hSs H
    · have := ready_mono hj hji
      rw [H.1] at this
      cases this
  | succ fu ih =>
    intro listed Ss a w hc hfree hr hy hS hSs H
    refine ⟨fun h => (by rw [h] at hr; cases hr), fun j hj => ?_⟩
    by_cases hji : j = i
    · subst hji; exact self _ _ _ _ _ hy hS hSs H
    · have h1 := H.2 j (ready_mono hj hji)
      obtain ⟨hjun, oj, hoj, hall⟩ := mem_ready.1 hj
      have hnot : ∀ e ∈ oj.after, Region.binds .any e = true → e.on ≠ i := fun e he hb heq => by
        have h1 := hall e he hb
        have h0 := (mem_ready.1 hr).1
        rw [heq] at h1
        rcases Nat.lt_or_ge i listed.size with h' | h'
        · simp [h'] at h0 h1; rw [h0] at h1; cases h1
        · simp [Array.getElem?_eq_none h'] at h1
      have hbf := not_before hc hr hj
      have hfl : (Sn ++ Ss).filter (fun s => !bfr (Region.before ops) s.1 j) = Sn ++ Ss.filter (fun s => !bfr (Region.before ops) s.1 j) := by
        rw [List.filter_append]
        congr 1
        apply List.filter_eq_self.2
        intro s hs
        rw [hSn s hs, hbf]; rfl
      rw [hfl] at h1
      have h2 := wpD_put hoj (hfree j oj hoj hji hjun hnot) (fun cs b => hsel i oi cs b hi) (fun cs b => hsel j oj cs b hoj) hy h1
      have hfree' : ∀ k ok, ops[k]? = some ok → k ≠ i → (listed.setIfInBounds j true).getD k true = false →
          (∀ e ∈ ok.after, Region.binds .any e = true → e.on ≠ i) → oi.apart ops ok = true := fun k ok hk hki hun hno => by
        refine hfree k ok hk hki ?_ hno
        by_cases hjk : j = k
        · subst hjk; exact hjun
        · rw [getD_set_ne true hjk] at hun; exact hun
      refine h2.mono fun a' w' h3 => ?_
      obtain ⟨h4, h5, h6⟩ := h3
      have h7 : holds Sn w' := fun s hs => h5 s (List.mem_append_left _ hs)
      have h8 : holds (Ss.filter fun s => !bfr (Region.before ops) s.1 j) w' := fun s hs => h5 s (List.mem_append_right _ hs)
      refine ⟨h8, ih (listed.setIfInBounds j true) _ a' w' (hc.set hj) hfree' (ready_mono hr (Ne.symm hji)) h4 h7 h8 ?_⟩
      rw [Array.setIfInBounds_comm _ _ hji]
      exact h6
end
end Go.Rc
namespace Go.Rc
open Go Go.Sym
def Rd.has : Rd → Nat → Pos → Prop
  | .nil, _, _ => False
  | .cons j q r, i, p => (j = i ∧ q = p) ∨ r.has i p
section
variable {P : Program} {n : Nat} {ops : Array Oper} {bf : Array Nat} {Q : Act → World → Prop}
theorem inN_t {na : List Nat} {i : Nat} {t f : Bool} (h : inN na i t f = true) : (i ∈ na ∧ t = true) ∨ (i ∉ na ∧ f = true) := by
  induction na with
  | nil => exact .inr ⟨by simp, h⟩
  | cons j l ih =>
    rcases bi_t (x := t) (y := inN l i t f) h with ⟨h1, h2⟩ | ⟨h1, h2⟩
    · have h1 := beq_t h1
      subst h1
      exact .inl ⟨by simp, h2⟩
    · have h1 := beq_f h1
      rcases ih h2 with ⟨h3, h4⟩ | ⟨h3, h4⟩
      · exact .inl ⟨List.mem_cons_of_mem _ h3, h4⟩
      · exact .inr ⟨by simp [Ne.symm h1, h3], h4⟩
theorem apart_t {rds : Rd} {na : List Nat} {lg : L} {k : Bool} (h : apart rds na lg k = true) : k = true ∧ ∀ i p, rds.has i p → i ∈ na → ¬ lg.has p := by
  induction rds with
  | nil => exact ⟨h, fun _ _ h => h.elim⟩
  | cons j q r ih =>
    have h : inN na j (inL lg q false (apart r na lg k)) (apart r na lg k) = true := h
    rcases inN_t h with ⟨h1, h2⟩ | ⟨h1, h2⟩
    · rcases inL_t h2 with ⟨_, h3⟩ | ⟨h3, h4⟩
      · cases h3
      · obtain ⟨h5, h6⟩ := ih h4
        refine ⟨h5, fun i p hp hi => ?_⟩
        rcases hp with ⟨rfl, rfl⟩ | hp
        · exact h3
        · exact h6 i p hp hi
    · obtain ⟨h5, h6⟩ := ih h2
      refine ⟨h5, fun i p hp hi => ?_⟩
      rcases hp with ⟨rfl, rfl⟩ | hp
      · exact absurd hi h1
      · exact h6 i p hp hi
def RdOk (σ : Sg) (h : Hp) (w : World) (rds : Rd) (Ss : Sl) : Prop := ∀ s ∈ Ss, ∃ p c, rds.has s.1 p ∧ Live h p ∧ σ p = some (s.2.1, c) ∧ w.heap[s.2.1]? = s.2.2
theorem HR.lg {E : Env} {R : List Blk} {σ : Sg} {t : HT} {nx : Pos} {l l' : L} {w : World} (H : HR P E R σ ⟨t, nx, l⟩ w) : HR P E R σ ⟨t, nx, l'⟩ w := ⟨H.env, H.live, H.inj, H.frame, H.fresh⟩
structure DrOk (P : Program) (n : Nat) (ops : Array Oper) (fu : Nat) (listed : Array Bool) (tk : List Nat) (r : DrF) : Prop where
  ok : ∀ cf rb fr h x rds kf E R σ a w Ss, CfOk P cf → RbOk P rb σ → r cf rb fr h x rds kf = true → FrOk σ n fr a → HR P E R σ h w → RdOk σ h w rds Ss → (∀ s ∈ Ss, s.1 ∈ tk) →
    anyD P ops (Region.before ops) (Aft P E R σ h w n a.defers fun fr' h' => kf fr' h' x) fu listed Ss a w
theorem dDone_ok {fu : Nat} {listed : Array Bool} {tk : List Nat} (hr : Region.ready .any ops listed = []) : DrOk P n ops fu listed tk dDone := ⟨fun cf rb fr h x rds kf E R σ a w Ss _ _ e hf H _ _ => by
  have hq : Aft P E R σ h w n a.defers (fun fr' h' => kf fr' h' x) a w := ⟨fr, h, σ, e, hf, .refl H, rfl⟩
  cases fu with
  | zero => exact ⟨hr, hq⟩
  | succ fu => exact ⟨fun _ => hq, fun j hj => by rw [hr] at hj; cases hj⟩⟩
/-- a loud operation, and what follows -/
theorem dOne_ok {fu : Nat} {listed : Array Bool} {tk : List Nat} {j : Nat} {o : Oper} {f : OpF} {s : Option S} {gd : Option (G × Bool)} {r : DrF} (ho : ops[j]? = some o) (hd : DstOk n o.dst s) (hg : GdOk n ops o gd) (hnd : ∀ c, o.op ≠ .defer c) (hf : WOk P n o.op f) (hr : DrOk P n ops fu (listed.setIfInBounds j true) tk r)
    {cf : Cf} {rb : RB} {fr : T} {h : Hp} {x : X} {rds : Rd} {kf : KF} {E : Env} {R : List Blk} {σ : Sg} {a : Act} {w : World} {Ss : Sl} (hcf : CfOk P cf) (hrb : RbOk P rb σ) (e : dOne (notBefore (Region.before ops) tk j) (rMk f s gd rNil) r cf rb fr h x rds kf = true) (hfr : FrOk σ n fr a) (H : HR P E R σ h w) (hrd : RdOk σ h w rds Ss) (htk : ∀ s ∈ Ss, s.1 ∈ tk) :
    wpD P ops j (fun a' w' => holds (Ss.filter fun s => !bfr (Region.before ops) s.1 j) w' ∧ anyD P ops (Region.before ops) (Aft P E R σ h w n a.defers fun fr' h' => kf fr' h' x) fu (listed.setIfInBounds j true) (Ss.filter fun s => !bfr (Region.before ops) s.1 j) a' w') a w := by
  obtain ⟨t, nx, lg⟩ := h
  have e1 : rMk f s gd rNil cf rb fr ⟨t, nx, .nil⟩ x (fun fr' h' x' => @Hp.rec (fun _ => Bool) (fun t' nx' lg' => apart rds (notBefore (Region.before ops) tk j) lg' (appL lg' lg fun lg'' => r cf rb fr' ⟨t', nx', lg''⟩ x' rds kf)) h') = true := e
  unfold wpD
  rw [ho]
  refine stepX.mono monoW (one_ok monoW hd hg hnd (fun cf rb fr h k E R σ a w q1 q2 q3 q4 q5 => hf.ok cf rb fr h k E R σ a w o rfl q1 q2 q3 q4 q5) hcf hrb e1 hfr H.lg) fun a' w' h1 => ?_
  obtain ⟨fr', h', σ', e2, hf', hs, hdd⟩ := h1
  obtain ⟨t', nx', lg'⟩ := h'
  obtain ⟨e3, hap⟩ := apart_t (k := appL lg' lg fun lg'' => r cf rb fr' ⟨t', nx', lg''⟩ x rds kf) e2
  rw [appL_eq] at e3
  obtain ⟨new, hnew, hkeep⟩ := hs.log
  have hnew : lg' = new := by
    have : lg' = new.app .nil := hnew
    rwa [L.app_nil] at this
  subst hnew
  have hs2 : Step P E R σ ⟨t, nx, lg⟩ w σ' ⟨t', nx', lg'.app lg⟩ w' := ⟨hs.ext, hs.hr.lg, lg', rfl, fun p b c hl hsp hn => hkeep p b c hl hsp hn⟩
  have hrd2 : RdOk σ' ⟨t', nx', lg'.app lg⟩ w' rds (Ss.filter fun s => !bfr (Region.before ops) s.1 j) := fun s hm => by
    rw [List.mem_filter] at hm
    obtain ⟨p, c, h2, h3, h4, h5⟩ := hrd s hm.1
    have hna : s.1 ∈ notBefore (Region.before ops) tk j := by
      unfold notBefore
      rw [List.mem_filter]
      exact ⟨htk s hm.1, hm.2⟩
    obtain ⟨h6, h7⟩ := hkeep p _ c h3 h4 (hap _ _ h2 hna)
    exact ⟨p, c, h2, h6, hs.ext _ _ h4, h7.trans h5⟩
  refine ⟨fun s hm => (hrd2 s hm).elim fun p h => h.elim fun c h => h.2.2.2, ?_⟩
  refine anyD.mono (fun a v hq => Aft.trans hs2 hq) _ _ _ _ _ ?_
  rw [← hdd]
  exact hr.ok cf rb fr' _ x rds kf E R σ' a' w' _ hcf (hrb.mono hs.ext) e3 hf' hs2.hr hrd2 fun s hm => htk s (List.mem_filter.1 hm).1
/-- the other way: what is put, is put ahead -/
theorem wpD_ahead {i j : Nat} {oi oj : Oper} {v : Value} (hj : ops[j]? = some oj) (hap : oi.apart ops oj = true) (hsi : ∀ cs b, oi.op ≠ .select cs b) (hsj : ∀ cs b, oj.op ≠ .select cs b) {K K0 : Act → World → Prop} {a : Act} {w : World}
    (h : wpD P ops j K0 a w) (hK : ∀ a' w', execOp a'.eval oi = execOp a.eval oi → K0 a' w' → K (a'.put oi.dst v) w') : wpD P ops j K (a.put oi.dst v) w := by
  obtain ⟨h1, h2, h3⟩ := Oper.apart_spec hap
  unfold wpD at *
  simp only [hj] at *
  obtain ⟨hd, h⟩ := h
  refine ⟨hd, ?_⟩
  rw [wanted_put oj a oi.dst v h1]
  refine h.imp (fun ⟨hw, h4⟩ => ⟨hw, ?_⟩) fun ⟨hw, h4⟩ => ⟨hw, ?_⟩
  · refine OpW.of_same (execOp_put oj hsj a oi.dst v h1) (h4.mono fun x w' h5 => ?_)
    rw [Act.put_comm a v x h2]
    exact hK _ _ (execOp_put oi hsi a oj.dst x h3) h5
  · rw [Act.put_comm a v undef h2]
    exact hK _ _ (execOp_put oi hsi a oj.dst undef h3) h4
theorem RdOk.grew {σ : Sg} {h : Hp} {w w' : World} {rds : Rd} {Ss : Sl} {E : Env} {R : List Blk} (H : HR P E R σ h w) (g : Grew w w') (hr : RdOk σ h w rds Ss) : RdOk σ h w' rds Ss := fun s hs => by
  obtain ⟨p, c, h1, h2, h3, h4⟩ := hr s hs
  obtain ⟨b, c', ob, h5, h6, _⟩ := H.live p h2
  rw [h3] at h5
  injection h5 with h5
  injection h5 with h5 _
  subst h5
  exact ⟨p, c, h1, h2, h3, by rw [← h4, h6]; exact g.2 _ _ h6⟩
/-- a block laid ahead of the one other operation that is ready -/
theorem par_ok {fu : Nat} {listed : Array Bool} {tk : List Nat} {i j t : Nat} {oi oj : Oper} {f fj : OpF} {s : S} {sj : Option S} {gj : Option (G × Bool)} {r : DrF} (hi : ops[i]? = some oi) (hj : ops[j]? = some oj) (hgi : oi.guard = none) (hdi : oi.dst = some t) (ht : t < n)
    (hs : ∀ v fr k, s v fr k = true → k (fr.set v (posOf t)) = true) (hap : oi.apart ops oj = true) (hndi : ∀ c, oi.op ≠ .defer c) (hndj : ∀ c, oj.op ≠ .defer c) (hsel : ∀ (j : Nat) (o : Oper) cs b, ops[j]? = some o → o.op ≠ .select cs b)
    (hdj : DstOk n oj.dst sj) (hgj : GdOk n ops oj gj) (hwi : WOk P n oi.op f) (hA : AOk P n oi.op f) (hwj : WOk P n oj.op fj) (hne : Region.ready .any ops listed ≠ []) (hmem : ∀ k ∈ Region.ready .any ops listed, k = i ∨ k = j)
    (hri : Region.ready .any ops (listed.setIfInBounds i true) = [j]) (hrj : Region.ready .any ops (listed.setIfInBounds j true) = [i]) (hij : i ≠ j) (hr : DrOk P n ops fu ((listed.setIfInBounds i true).setIfInBounds j true) tk r) :
    DrOk P n ops (fu + 2) listed tk (dPar f (dOne (notBefore (Region.before ops) tk j) (rMk fj sj gj rNil) (dOne (notBefore (Region.before ops) tk i) (rSet f s rNil) r))) := ⟨fun cf rb fr h x rds kf E R σ a w Ss hcf hrb e hfr H hrd htk => by
  have hdst : DstOk n oi.dst (some s) := .inr ⟨t, s, hdi, ht, rfl, hs⟩
  have hgi' : GdOk n ops oi none := .inl ⟨hgi, rfl⟩
  have hr' : DrOk P n ops fu ((listed.setIfInBounds j true).setIfInBounds i true) tk r := by
    rw [Array.setIfInBounds_comm _ _ (Ne.symm hij)]; exact hr
  have hj1 : DrOk P n ops (fu + 1) (listed.setIfInBounds j true) tk (dOne (notBefore (Region.before ops) tk i) (rMk f (some s) none rNil) r) := ⟨fun cf rb fr h x rds kf E R σ a w Ss hcf hrb e hfr H hrd htk => ⟨fun e1 => (by rw [hrj] at e1; cases e1), fun k hk => by
    rw [hrj] at hk
    simp at hk
    subst hk
    exact dOne_ok hi hdst hgi' hndi hwi hr' hcf hrb e hfr H hrd htk⟩⟩
  obtain ⟨ao0, val0, e1, hA0⟩ := hA.ok cf rb fr h _ e
  rw [hnew_eq] at e1
  refine ⟨fun e2 => absurd e2 hne, fun k hk => ?_⟩
  rcases hmem k hk with rfl | rfl
  case inr => exact dOne_ok hj hdj hgj hndj hwj hj1 hcf hrb e1 hfr H hrd htk
  obtain ⟨ob, gh0, x0, hrun, _⟩ := hA0 σ a hfr
  have g := Grew.alloc w ob
  have s0 := Step.grew H g
  have hfl : ∀ q ∈ Ss.filter (fun s => !bfr (Region.before ops) s.1 k), q ∈ Ss := fun q hq => (List.mem_filter.1 hq).1
  have hrd1 : RdOk σ h (w.alloc ob) rds (Ss.filter fun s => !bfr (Region.before ops) s.1 k) := RdOk.grew H g fun q hq => hrd q (hfl q hq)
  unfold wpD
  rw [hi]
  refine ⟨hndi, .inl ⟨wanted_none hgi, .inl ⟨x0 w.heap.size, w.alloc ob, hrun w oi rfl, ?_⟩⟩⟩
  refine ⟨fun q hq => (hrd1 q hq).elim fun p h => h.elim fun c h => h.2.2.2, fun e2 => (by rw [hri] at e2; cases e2), fun k' hk' => ?_⟩
  rw [hri] at hk'
  simp at hk'
  subst hk'
  -- the other operation, over the world that has the block already
  obtain ⟨t0, nx, lg⟩ := h
  have e3 : rMk fj sj gj rNil cf rb fr ⟨t0, nx, .nil⟩ x (fun fr' h' x' => @Hp.rec (fun _ => Bool) (fun t' nx' lg' => apart rds (notBefore (Region.before ops) tk k') lg' (appL lg' lg fun lg'' => dOne (notBefore (Region.before ops) tk k) (rSet f s rNil) r cf rb fr' ⟨t', nx', lg''⟩ x' rds kf)) h') = true := e1
  have hpin := H.pin ob
  have h0 : wpD P ops k' (Aft P E ((w.heap.size, ob) :: R) σ ⟨t0, nx, .nil⟩ (w.alloc ob) n a.defers fun fr' h' => rNil cf rb fr' h' x fun fr' h' x' => @Hp.rec (fun _ => Bool) (fun t' nx' lg' => apart rds (notBefore (Region.before ops) tk k') lg' (appL lg' lg fun lg'' => dOne (notBefore (Region.before ops) tk k) (rSet f s rNil) r cf rb fr' ⟨t', nx', lg''⟩ x' rds kf)) h') a (w.alloc ob) := by
    unfold wpD
    rw [hj]
    exact one_ok monoW hdj hgj hndj (fun cf rb fr h k E R σ a w q1 q2 q3 q4 q5 => hwj.ok cf rb fr h k E R σ a w oj rfl q1 q2 q3 q4 q5) hcf hrb e3 hfr hpin.lg
  have hput : a.put (some t) (x0 w.heap.size) = a.put oi.dst (x0 w.heap.size) := by rw [hdi]
  refine wpD_ahead (i := k) hj hap (fun cs b => hsel k oi cs b hi) (fun cs b => hsel k' oj cs b hj) h0 fun a' w' hexec hq => ?_
  obtain ⟨fr', h', σ', e4, hf', hst, hdd⟩ := hq
  obtain ⟨t', nx', lg'⟩ := h'
  obtain ⟨e5, hapart⟩ := apart_t (k := appL lg' lg fun lg'' => dOne (notBefore (Region.before ops) tk k) (rSet f s rNil) r cf rb fr' ⟨t', nx', lg''⟩ x rds kf) e4
  rw [appL_eq] at e5
  obtain ⟨new, hnew, hkeep⟩ := hst.log
  have hnew : lg' = new := by
    have : lg' = new.app .nil := hnew
    rwa [L.app_nil] at this
  subst hnew
  have hrd2 : RdOk σ' ⟨t', nx', lg'.app lg⟩ w' rds ((Ss.filter fun s => !bfr (Region.before ops) s.1 k).filter fun s => !bfr (Region.before ops) s.1 k') := fun q hq => by
    rw [List.mem_filter] at hq
    obtain ⟨p, c, h2, h3, h4, h5⟩ := hrd1 q hq.1
    have hna : q.1 ∈ notBefore (Region.before ops) tk k' := by
      unfold notBefore
      rw [List.mem_filter]
      exact ⟨htk q (hfl q hq.1), hq.2⟩
    obtain ⟨h6, h7⟩ := hkeep p _ c h3 h4 (hapart _ _ h2 hna)
    exact ⟨p, c, h2, h6, hst.ext _ _ h4, h7.trans h5⟩
  refine ⟨fun q hq => (hrd2 q hq).elim fun p h => h.elim fun c h => h.2.2.2, ?_⟩
  have hb := (hst.hr.frame (w.heap.size, ob) (List.mem_cons_self ..)).1
  have hfree := (hst.hr.frame (w.heap.size, ob) (List.mem_cons_self ..)).2
  have hst1 := hst.unpin
  have hst2 : Step P E R σ ⟨t0, nx, lg⟩ (w.alloc ob) σ' ⟨t', nx', lg'.app lg⟩ w' := ⟨hst1.ext, hst1.hr.lg, lg', rfl, fun p b c hl hsp hn => hkeep p b c hl hsp hn⟩
  -- the block, named
  obtain ⟨ao, val, e6, hA1⟩ := hA.ok cf rb fr' ⟨t', nx', .nil⟩ _ e5
  rw [hnew_eq] at e6
  obtain ⟨ob', gh, x1, hrun1, hrel⟩ := hA1 σ' a' hf'
  have hsame := hrun1 w oi rfl
  rw [hexec, hrun w oi rfl] at hsame
  have hx : x0 w.heap.size = x1 w.heap.size := by injection hsame with q1 q2; injection q1
  have hob : ob = ob' := by
    injection hsame with q1 q2
    have q3 : w.heap.push ob = w.heap.push ob' := congrArg World.heap q2
    have q4 := congrArg (fun z => z[w.heap.size]?) q3
    simpa using q4
  subst hob
  have hext := hst1.hr.lg (l' := .nil)
  obtain ⟨ho1, ho2⟩ := hrel _ nx' w.heap.size (hext.ext (w.heap.size, gh)) (upS_self _ _ _)
  have s3 := Step.adopt (w' := w') hext hb (fun _ _ => rfl) rfl (fun p c' hl => hfree p c' hl) (fun y hy => Nat.ne_of_lt (H.frame_lt hy)) ho1
  have e7 := hs _ _ _ e6
  have e7 : apart rds (notBefore (Region.before ops) tk k) .nil (appL .nil (lg'.app lg) fun lg'' => r cf rb (fr'.set (val nx') (posOf t)) ⟨((⟨t', nx', .nil⟩ : Hp).new ao).t, ((⟨t', nx', .nil⟩ : Hp).new ao).nx, lg''⟩ x rds kf) = true := e7
  obtain ⟨e8, _⟩ := apart_t e7
  rw [appL_eq] at e8
  obtain ⟨new3, hnew3, hkeep3⟩ := s3.log
  have hnew3 : new3 = .nil := by
    have : (L.nil : L) = new3.app .nil := hnew3
    rw [L.app_nil] at this
    exact this.symm
  subst hnew3
  have s4 : Step P E R σ' ⟨t', nx', lg'.app lg⟩ w' _ ⟨((⟨t', nx', .nil⟩ : Hp).new ao).t, ((⟨t', nx', .nil⟩ : Hp).new ao).nx, lg'.app lg⟩ w' := ⟨s3.ext, s3.hr.lg, .nil, rfl, fun p b c hl hsp hn => hkeep3 p b c hl hsp hn⟩
  have hall := s0.trans (hst2.trans s4)
  have hdd2 : a.defers = (a'.put (some t) (x1 w.heap.size)).defers := hdd.symm
  rw [hx, hdi]
  refine anyD.mono (fun a v hq => Aft.trans hall hq) _ _ _ _ _ ?_
  rw [hdd2]
  exact hr.ok cf rb _ _ x rds kf E R _ _ w' _ hcf (hrb.mono hall.ext) e8 ((hf'.mono s4.ext).put ht ho2) s4.hr (fun q hq => by
    obtain ⟨p, c, h2, h3, h4, h5⟩ := hrd2 q hq
    obtain ⟨h6, h7⟩ := hkeep3 p _ c h3 h4 (fun h => h)
    exact ⟨p, c, h2, h6, s3.ext _ _ h4, h7.trans h5⟩) fun q hq => htk q (hfl q (List.mem_filter.1 hq).1)⟩
/-- a quiet operation, taken first -/
theorem dTake_ok {fu : Nat} {listed : Array Bool} {tk tk' : List Nat} {i : Nat} {o : Oper} {t : Nat} {r : DrF} (ho : ops[i]? = some o) (hdst : o.dst = some t) (ht : t < n) (hnd : ∀ c, o.op ≠ .defer c)
    (hsel : ∀ (j : Nat) (o : Oper) cs b, ops[j]? = some o → o.op ≠ .select cs b) (hc : closed ops listed) (hfree : Region.free .any ops listed i = true) (hi : i ∈ Region.ready .any ops listed)
    (hr : DrOk P n ops fu (listed.setIfInBounds i true) tk' r) (hsub : ∀ j ∈ tk, j ∈ tk')
    {cf : Cf} {rb : RB} {fr : T} {h : Hp} {x : X} {rds rds' : Rd} {kf : KF} {E : Env} {R : List Blk} {σ : Sg} {a : Act} {w : World} {Ss Sn : Sl} {v : V} {x1 : Value} (hcf : CfOk P cf) (hrb : RbOk P rb σ) (hv : Rel σ v x1) (hy : Yld P ops Sn o x1 a) (hSn : holds Sn w) (hSn1 : ∀ s ∈ Sn, s.1 = i ∧ i ∈ tk' ∧ ∃ p c, rds'.has i p ∧ Live h p ∧ σ p = some (s.2.1, c))
    (hrds : ∀ j p, rds.has j p → rds'.has j p) (e : r cf rb (fr.set v (posOf t)) h x rds' kf = true) (hfr : FrOk σ n fr a) (H : HR P E R σ h w) (hrd : RdOk σ h w rds Ss) (htk : ∀ s ∈ Ss, s.1 ∈ tk) :
    anyD P ops (Region.before ops) (Aft P E R σ h w n a.defers fun fr' h' => kf fr' h' x) (fu + 1) listed Ss a w := by
  refine anyD_first ho hsel (fun s hs => (hSn1 s hs).1) fu listed Ss a w hc (Region.free_spec ho hfree) hi hy hSn (fun s hs => (hrd s hs).elim fun p h => h.elim fun c h => h.2.2.2) ?_
  rw [hdst]
  have hdd : a.defers = (a.put (some t) x1).defers := rfl
  rw [hdd]
  refine hr.ok cf rb _ h x rds' kf E R σ _ w _ hcf hrb e (hfr.put ht hv) H (fun s hs => ?_) fun s hs => ?_
  · rcases List.mem_append.1 hs with hs | hs
    · obtain ⟨h1, _, p, c, h2, h3, h4⟩ := hSn1 s hs
      exact ⟨p, c, h1 ▸ h2, h3, h4, hSn s hs⟩
    · obtain ⟨p, c, h1, h2⟩ := hrd s hs
      exact ⟨p, c, hrds _ _ h1, h2⟩
  · rcases List.mem_append.1 hs with hs | hs
    · obtain ⟨h1, h2, _⟩ := hSn1 s hs
      exact h1 ▸ h2
    · exact hsub _ (htk s hs)
end
end Go.Rc
namespace Go.Rc
open Go Go.Sym
section
variable {P : Program} {n : Nat} {ops : Array Oper}
theorem natsK_eq : ∀ (l : List Nat) (k : List Nat → Bool), natsK l k = k l
  | [], k => rfl
  | i :: l, k => by
    show (fN i fun i' => natsK l fun r => k (i' :: r)) = _
    rw [fN_eq, natsK_eq l]
theorem loudK_t {bf : Array Nat} {tk : List Nat} {j : Nat} {k : (DrF → DrF) → Bool} (h : loudK P n ops bf tk j k = true) : ∃ o f s gd, ops[j]? = some o ∧ DstOk n o.dst s ∧ GdOk n ops o gd ∧ (∀ c, o.op ≠ .defer c) ∧ WOk P n o.op f ∧ k (dOne (notBefore bf tk j) (rMk f s gd rNil)) = true := by
  unfold loudK at h
  split at h
  · cases h
  · rename_i o ho
    have hnd := copK_nd h
    obtain ⟨f, kd, h1, hs⟩ := copK_t h
    obtain ⟨s, hd, h2⟩ := dstK_t h1
    obtain ⟨gd, hg, h3⟩ := gdK_t h2
    rw [natsK_eq] at h3
    refine ⟨o, f, s, gd, ho, hd, hg, hnd, hs.w', ?_⟩
    cases gd with
    | none => cases s <;> exact h3
    | some gw => obtain ⟨g, w⟩ := gw; cases s <;> exact h3
/-- quiet operations -/
structure Qc (P : Program) (n : Nat) (ops : Array Oper) (listed : Array Bool) (i : Nat) (o : Oper) (t : Nat) (s : S) : Prop where
  ho : ops[i]? = some o
  hdst : o.dst = some t
  ht : t < n
  hs : ∀ v fr k, s v fr k = true → k (fr.set v (posOf t)) = true
  hnd : ∀ c, o.op ≠ .defer c
  hsel : ∀ (j : Nat) (o : Oper) cs b, ops[j]? = some o → o.op ≠ .select cs b
  hc : closed ops listed
  hfree : Region.free .any ops listed i = true
  hi : i ∈ Region.ready .any ops listed
variable {fu : Nat} {listed : Array Bool} {tk tk' : List Nat} {i : Nat} {o : Oper} {f : OpF} {t : Nat} {s : S} {r : DrF} {g rd : G} {wn : Bool} {val : T → V}
/-- what a read leaves behind it -/
theorem read_spec (q : QOk P n o.op f (valRn val)) {cf : Cf} {rb : RB} {fr : T} {h : Hp} {k : K1} {E : Env} {R : List Blk} {σ : Sg} {a : Act} {w : World} (e : f cf rb fr h k = true) (hfr : FrOk σ n fr a) (H : HR P E R σ h w)
    {tg na nb nd : Nat} {p : Pos} {l r : V} (hval : val fr = .c tg na nb nd p l r) : ∃ (v : V) (x : Value) (Sn : Sl), k v h = true ∧ Rel σ v x ∧ holds Sn w ∧ (∀ s ∈ Sn, s.1 = i ∧ Live h p ∧ ∃ c, σ p = some (s.2.1, c)) ∧ ∀ w', holds Sn w' → (execOp a.eval o).run P w' = .ok (.value x) w' := by
  obtain ⟨v, x, h1, h2, h3⟩ := q.ok cf rb fr h k E R σ a w e hfr H
  by_cases hl : Live h p
  · obtain ⟨b, c, ob, h4, h5, _⟩ := H.live p hl
    refine ⟨v, x, [(i, b, w.heap[b]?)], h1, h2, fun s hs => by simp at hs; subst hs; rfl, fun s hs => by simp at hs; subst hs; exact ⟨rfl, hl, c, h4⟩, fun w' hw => h3 w' o rfl fun p' b' c' hr hl' hs' => ?_⟩
    obtain ⟨_, _, _, _, _, _, hv⟩ := hr
    rw [hval] at hv
    injection hv with _ _ _ _ hp
    subst hp
    rw [h4] at hs'
    injection hs' with hs'
    injection hs' with hs' _
    subst hs'
    exact hw (i, b, w.heap[b]?) (List.mem_singleton.2 rfl)
  · refine ⟨v, x, [], h1, h2, fun s hs => by simp at hs, fun s hs => by simp at hs, fun w' _ => h3 w' o rfl fun p' b' c' hr hl' hs' => ?_⟩
    obtain ⟨_, _, _, _, _, _, hv⟩ := hr
    rw [hval] at hv
    injection hv with _ _ _ _ hp
    subst hp
    exact absurd hl' hl
theorem take_ok (c : Qc P n ops listed i o t s) (q : QOk P n o.op f noRn) (hg : o.guard = none) (hr : DrOk P n ops fu (listed.setIfInBounds i true) tk' r) (hsub : ∀ j ∈ tk, j ∈ tk') : DrOk P n ops (fu + 1) listed tk (dTake f s r) := ⟨fun cf rb fr h x rds kf E R σ a w Ss hcf hrb e hfr H hrd htk => by
  obtain ⟨v, x1, h1, h2, h3⟩ := q.ok cf rb fr h _ E R σ a w e hfr H
  exact dTake_ok c.ho c.hdst c.ht c.hnd c.hsel c.hc c.hfree c.hi hr hsub (Sn := []) (rds' := rds) hcf hrb h2 ⟨c.hnd, .inl ⟨wanted_none hg, fun w' _ => h3 w' o rfl fun _ _ _ h => h.elim⟩⟩ (fun s hs => by simp at hs) (fun s hs => by simp at hs) (fun _ _ h => h) (c.hs _ _ _ h1) hfr H hrd htk⟩
theorem takeG_ok (c : Qc P n ops listed i o t s) (q : QOk P n o.op f noRn) {j dj : Nat} (hg1 : o.guard = some (j, wn)) (hg2 : (ops[j]?).bind (·.dst) = some dj) (hg3 : dj < n) (hg4 : ∀ fr k, g fr k = true → k (fr.at (posOf dj)) = true) (hr : DrOk P n ops fu (listed.setIfInBounds i true) tk' r) (hsub : ∀ j ∈ tk, j ∈ tk') : DrOk P n ops (fu + 1) listed tk (dTakeG g wn f s r) := ⟨fun cf rb fr h x rds kf E R σ a w Ss hcf hrb e hfr H hrd htk => by
  obtain ⟨w1, w2⟩ := wanted_some (o := o) (w := wn) hg1 hg2 hg3 hfr.size
  rcases onGd_t (hg4 _ _ e) (hfr.get dj) with ⟨e1, e2⟩ | ⟨e1, e2⟩
  · obtain ⟨v, x1, h1, h2, h3⟩ := q.ok cf rb fr h _ E R σ a w e2 hfr H
    exact dTake_ok c.ho c.hdst c.ht c.hnd c.hsel c.hc c.hfree c.hi hr hsub (Sn := []) (rds' := rds) hcf hrb h2 ⟨c.hnd, .inl ⟨w1 e1, fun w' _ => h3 w' o rfl fun _ _ _ h => h.elim⟩⟩ (fun s hs => by simp at hs) (fun s hs => by simp at hs) (fun _ _ h => h) (c.hs _ _ _ h1) hfr H hrd htk
  · exact dTake_ok c.ho c.hdst c.ht c.hnd c.hsel c.hc c.hfree c.hi hr hsub (Sn := []) (rds' := rds) hcf hrb (.undef σ) ⟨c.hnd, .inr ⟨w2 e1, rfl⟩⟩ (fun s hs => by simp at hs) (fun s hs => by simp at hs) (fun _ _ h => h) (c.hs _ _ _ e2) hfr H hrd htk⟩
theorem read_ok (c : Qc P n ops listed i o t s) (hrdv : ∀ fr k, rd fr k = true → k (val fr) = true) (q : QOk P n o.op f (valRn val)) (hg : o.guard = none) (hr : DrOk P n ops fu (listed.setIfInBounds i true) tk' r) (hsub : ∀ j ∈ tk, j ∈ tk') (hi : i ∈ tk') : DrOk P n ops (fu + 1) listed tk (dRead i rd f s r) := ⟨fun cf rb fr h x rds kf E R σ a w Ss hcf hrb e hfr H hrd htk => by
  have e1 := hrdv _ _ e
  obtain ⟨_, _, _, _, p, _, _, hv, e2⟩ := onC_t e1
  obtain ⟨v, x1, Sn, h1, h2, h3, h4, h5⟩ := read_spec (i := i) q e2 hfr H hv
  exact dTake_ok c.ho c.hdst c.ht c.hnd c.hsel c.hc c.hfree c.hi hr hsub (Sn := Sn) (rds' := .cons i p rds) hcf hrb h2 ⟨c.hnd, .inl ⟨wanted_none hg, h5⟩⟩ h3 (fun s hs => by
    obtain ⟨q1, q2, c', q3⟩ := h4 s hs
    exact ⟨q1, hi, p, c', .inl ⟨rfl, rfl⟩, q2, q3⟩) (fun _ _ h => .inr h) (c.hs _ _ _ h1) hfr H hrd htk⟩
theorem readG_ok (c : Qc P n ops listed i o t s) (hrdv : ∀ fr k, rd fr k = true → k (val fr) = true) (q : QOk P n o.op f (valRn val)) {j dj : Nat} (hg1 : o.guard = some (j, wn)) (hg2 : (ops[j]?).bind (·.dst) = some dj) (hg3 : dj < n) (hg4 : ∀ fr k, g fr k = true → k (fr.at (posOf dj)) = true) (hr : DrOk P n ops fu (listed.setIfInBounds i true) tk' r) (hsub : ∀ j ∈ tk, j ∈ tk') (hi : i ∈ tk') : DrOk P n ops (fu + 1) listed tk (dReadG i rd g wn f s r) := ⟨fun cf rb fr h x rds kf E R σ a w Ss hcf hrb e hfr H hrd htk => by
  obtain ⟨w1, w2⟩ := wanted_some (o := o) (w := wn) hg1 hg2 hg3 hfr.size
  rcases onGd_t (hg4 _ _ e) (hfr.get dj) with ⟨e1, e2⟩ | ⟨e1, e2⟩
  · have e3 := hrdv _ _ e2
    obtain ⟨_, _, _, _, p, _, _, hv, e4⟩ := onC_t e3
    obtain ⟨v, x1, Sn, h1, h2, h3, h4, h5⟩ := read_spec (i := i) q e4 hfr H hv
    exact dTake_ok c.ho c.hdst c.ht c.hnd c.hsel c.hc c.hfree c.hi hr hsub (Sn := Sn) (rds' := .cons i p rds) hcf hrb h2 ⟨c.hnd, .inl ⟨w1 e1, h5⟩⟩ h3 (fun s hs => by
      obtain ⟨q1, q2, c', q3⟩ := h4 s hs
      exact ⟨q1, hi, p, c', .inl ⟨rfl, rfl⟩, q2, q3⟩) (fun _ _ h => .inr h) (c.hs _ _ _ h1) hfr H hrd htk
  · exact dTake_ok c.ho c.hdst c.ht c.hnd c.hsel c.hc c.hfree c.hi hr hsub (Sn := []) (rds' := rds) hcf hrb (.undef σ) ⟨c.hnd, .inr ⟨w2 e1, rfl⟩⟩ (fun s hs => by simp at hs) (fun s hs => by simp at hs) (fun _ _ h => h) (c.hs _ _ _ e2) hfr H hrd htk⟩
/-! the masks -/
def orN : List Nat → Nat
  | [] => 0
  | i :: l => Nat.lor (Nat.pow 2 i) (orN l)
theorem orK_eq : ∀ (l : List Nat) (k : Nat → Bool), orK l k = k (orN l)
  | [], k => rfl
  | i :: l, k => by
    show (orK l fun m => fN (Nat.lor (Nat.pow 2 i) m) k) = _
    rw [orK_eq l, fN_eq]
    rfl
theorem orN_bit : ∀ (l : List Nat) (j : Nat), (orN l).testBit j = decide (j ∈ l)
  | [], j => by simp [orN]
  | i :: l, j => by
    have h1 : (orN (i :: l)).testBit j = ((2 ^ i) ||| orN l).testBit j := rfl
    rw [h1, Nat.testBit_or, Nat.testBit_two_pow, orN_bit l j]
    by_cases h : i = j
    · subst h; simp
    · simp [h, Ne.symm h]
theorem land0 {a b : Nat} (h : Nat.beq (Nat.land a b) 0 = true) (j : Nat) (ha : a.testBit j = true) : b.testBit j = false := by
  have h1 : (a &&& b).testBit j = false := by
    have : a &&& b = 0 := beq_t h
    rw [this]; simp
  rw [Nat.testBit_and, ha] at h1
  simpa using h1
def Row.nr : Row → Nat
  | .mk i _ _ _ => i
def Row.bt : Row → Nat
  | .mk _ b _ _ => b
def Rw1.nr : Rw1 → Nat
  | .mk i _ _ _ _ => i
def Rw1.bt : Rw1 → Nat
  | .mk _ b _ _ _ => b
def Rw1Ok (ops : Array Oper) : Rw1 → Prop
  | .mk i b w d l => ∃ o, ops[i]? = some o ∧ b = orN [i] ∧ w = orN (i :: afts o) ∧ (∀ e ∈ afts o, e < ops.size ∧ e ≠ i) ∧ d = orN (dstL o) ∧ l = orN (o.looksAt ops)
def RowOk (ops : Array Oper) : Row → Prop
  | .mk i b w c => ∃ o, ops[i]? = some o ∧ b = orN [i] ∧ w = orN (i :: afts o) ∧ (∀ e ∈ afts o, e < ops.size ∧ e ≠ i) ∧ ∀ j oj, ops[j]? = some oj → j ≠ i → i ∈ afts oj ∨ o.apart ops oj = true ∨ c.testBit j = true
theorem rw1K_t : ∀ (l : List Nat) {k : List Rw1 → Bool}, rw1K ops ops.size l k = true → ∃ r, k r = true ∧ (∀ x ∈ r, Rw1Ok ops x) ∧ r.map Rw1.nr = l
  | [], k, h => ⟨[], h, fun x hx => by simp at hx, rfl⟩
  | i :: l, k, h => by
    unfold rw1K at h
    rw [fN_eq] at h
    split at h
    · cases h
    · rename_i o ho
      obtain ⟨h1, h2⟩ := bi_f h
      simp only [orK_eq] at h2
      obtain ⟨r, h3, h4, h5⟩ := rw1K_t l h2
      refine ⟨_, h3, fun x hx => ?_, by simp [Rw1.nr, h5]⟩
      rcases List.mem_cons.1 hx with rfl | hx
      · refine ⟨o, ho, rfl, rfl, fun e he => ?_, rfl, rfl⟩
        have := List.all_eq_true.1 h1 e he
        simp only [Bool.and_eq_true] at this
        refine ⟨blt_t this.1, fun e1 => ?_⟩
        subst e1
        simp at this
      · exact h4 x hx
theorem apart_mask {oi oj : Oper} {d d' lk lk' : Nat} (h1 : d = orN (dstL oi)) (h2 : lk = orN (oi.looksAt ops)) (h3 : d' = orN (dstL oj)) (h4 : lk' = orN (oj.looksAt ops))
    (h5 : Nat.beq (Nat.land d (Nat.lor lk' d')) 0 = true) (h6 : Nat.beq (Nat.land d' lk) 0 = true) : oi.apart ops oj = true := by
  subst h1 h2 h3 h4
  unfold Oper.apart
  simp only [Bool.and_eq_true]
  constructor
  · cases hd : oi.dst with
    | none => rfl
    | some x =>
      have hx : (orN (dstL oi)).testBit x = true := by rw [orN_bit]; simp [dstL, hd]
      have h7 := land0 h5 x hx
      have h7 : ((orN (oj.looksAt ops)) ||| (orN (dstL oj))).testBit x = false := h7
      rw [Nat.testBit_or, orN_bit, orN_bit] at h7
      simp only [Bool.or_eq_false_iff, decide_eq_false_iff_not] at h7
      obtain ⟨h8, h9⟩ := h7
      have h10 : oj.dst ≠ some x := fun e => h9 (by simp [dstL, e])
      simp [h8, h10]
  · cases hd : oj.dst with
    | none => rfl
    | some x =>
      have hx : (orN (dstL oj)).testBit x = true := by rw [orN_bit]; simp [dstL, hd]
      have h7 := land0 h6 x hx
      rw [orN_bit] at h7
      simp only [decide_eq_false_iff_not] at h7
      simp [h7]
theorem okM_t {i : Nat} {o : Oper} {b d lk : Nat} (hb : b = orN [i]) (hd : d = orN (dstL o)) (hl : lk = orN (o.looksAt ops)) {x : Rw1} (hx : Rw1Ok ops x) (h : okM i b d lk x = true) {oj : Oper} (hj : ops[x.nr]? = some oj) (hne : x.nr ≠ i) :
    i ∈ afts oj ∨ o.apart ops oj = true := by
  obtain ⟨j, bj, w, d', lk'⟩ := x
  obtain ⟨oj', h1, h2, h3, h4, h5, h6⟩ := hx
  have hj : ops[j]? = some oj := hj
  rw [h1] at hj
  injection hj with hj
  subst hj
  have hne : j ≠ i := hne
  unfold okM at h
  simp only at h
  split at h
  · rename_i he
    exact absurd (beq_t he) hne
  · split at h
    · rename_i hz
      refine .inl (Classical.byContradiction fun hn => ?_)
      have : Nat.land w b = 0 := by
        apply Nat.eq_of_testBit_eq
        intro q
        show (w &&& b).testBit q = _
        rw [Nat.testBit_and, h3, hb, orN_bit, orN_bit]
        simp only [Nat.zero_testBit, Bool.and_eq_false_imp, decide_eq_true_eq, decide_eq_false_iff_not, List.mem_singleton]
        intro hq e
        subst e
        rcases List.mem_cons.1 hq with e | e
        · exact hne e.symm
        · exact hn e
      rw [this] at hz
      cases hz
    · split at h
      · cases h
      · rename_i h7
        exact .inr (apart_mask hd hl h5 h6 h7 h)
theorem cK_t {i b d lk : Nat} : ∀ (l : List Rw1) {k : Nat → Bool}, (∀ x ∈ l, Rw1Ok ops x) → cK i b d lk l k = true → ∃ c, k c = true ∧ ∀ x ∈ l, okM i b d lk x = true ∨ c.testBit x.nr = true
  | [], k, _, h => ⟨0, h, fun x hx => by simp at hx⟩
  | r :: l, k, hl, h => by
    unfold cK at h
    split at h
    · rename_i ho
      obtain ⟨c, h1, h2⟩ := cK_t l (fun x hx => hl x (List.mem_cons_of_mem _ hx)) h
      refine ⟨c, h1, fun x hx => ?_⟩
      rcases List.mem_cons.1 hx with rfl | hx
      · exact .inl ho
      · exact h2 x hx
    · obtain ⟨c, h1, h2⟩ := cK_t l (fun x hx => hl x (List.mem_cons_of_mem _ hx)) h
      obtain ⟨j, bj, w, d', lk'⟩ := r
      have h1 : fN (Nat.lor bj c) k = true := h1
      rw [fN_eq] at h1
      refine ⟨_, h1, fun x hx => ?_⟩
      have e : ∀ q, (Nat.lor bj c).testBit q = (bj.testBit q || c.testBit q) := fun q => Nat.testBit_or bj c q
      rcases List.mem_cons.1 hx with rfl | hx
      · obtain ⟨o, _, hb, _⟩ := hl _ (List.mem_cons_self ..)
        refine .inr ?_
        show (Nat.lor bj c).testBit j = true
        rw [e, hb, orN_bit]
        simp
      · refine (h2 x hx).imp id fun h3 => ?_
        rw [e, h3]; simp
theorem rw2K_t {all : List Rw1} (hall : ∀ x ∈ all, Rw1Ok ops x) (hi : all.map Rw1.nr = List.range ops.size) : ∀ (l : List Rw1) {k : List Row → Bool}, (∀ x ∈ l, x ∈ all) → rw2K all l k = true → ∃ r, k r = true ∧ (∀ x ∈ r, RowOk ops x) ∧ r.map Row.nr = l.map Rw1.nr
  | [], k, _, h => ⟨[], h, fun x hx => by simp at hx, rfl⟩
  | .mk i b w d lk :: l, k, hl, h => by
    unfold rw2K at h
    obtain ⟨c, h1, h2⟩ := cK_t all hall h
    obtain ⟨r, h3, h4, h5⟩ := rw2K_t hall hi l (fun x hx => hl x (List.mem_cons_of_mem _ hx)) h1
    refine ⟨_, h3, fun x hx => ?_, by simp [Rw1.nr, Row.nr, h5]⟩
    rcases List.mem_cons.1 hx with rfl | hx
    · obtain ⟨o, g1, g2, g3, g4, g5, g6⟩ := hall _ (hl _ (List.mem_cons_self ..))
      refine ⟨o, g1, g2, g3, g4, fun j oj hj hne => ?_⟩
      have hm : j ∈ all.map Rw1.nr := by rw [hi]; exact List.mem_range.2 (Array.getElem?_eq_some_iff.1 hj).1
      obtain ⟨y, hy, rfl⟩ := List.mem_map.1 hm
      rcases h2 y hy with h6 | h6
      · exact (okM_t g2 g5 g6 (hall y hy) h6 hj hne).imp id .inl
      · exact .inr (.inr h6)
    · exact h4 x hx
/-- what the rows of a region are -/
def RowsOk (ops : Array Oper) (rows : List Row) : Prop := (∀ x ∈ rows, RowOk ops x) ∧ rows.map Row.nr = List.range ops.size
theorem rowsK_t {k : List Row → Bool} (h : rowsK ops k = true) : ∃ r, k r = true ∧ RowsOk ops r := by
  unfold rowsK at h
  obtain ⟨r, h1, h2, h3⟩ := rw1K_t _ h
  obtain ⟨r', h4, h5, h6⟩ := rw2K_t h2 h3 r (fun x hx => hx) h1
  exact ⟨r', h4, h5, h6.trans h3⟩
/-- u: the bits of those that have not come up -/
def Msk (ops : Array Oper) (listed : Array Bool) (u : Nat) : Prop := listed.size = ops.size ∧ ∀ i, u.testBit i = !listed.getD i true
theorem Msk.init : Msk ops (Array.replicate ops.size false) (Nat.sub (Nat.pow 2 ops.size) 1) := ⟨by simp, fun i => by
  show (2 ^ ops.size - 1).testBit i = _
  rw [Nat.testBit_two_pow_sub_one]
  by_cases h : i < ops.size <;> simp [h]⟩
theorem Msk.set {listed : Array Bool} {u i : Nat} (hm : Msk ops listed u) (hi : listed.getD i true = false) : Msk ops (listed.setIfInBounds i true) (Nat.xor u (orN [i])) := ⟨by simp [hm.1], fun j => by
  show (u ^^^ orN [i]).testBit j = _
  have hlt : i < listed.size := Classical.byContradiction fun hn => by simp [hn] at hi
  rw [Nat.testBit_xor, hm.2 j, orN_bit]
  by_cases h : j = i
  · subst h
    simp [hi, hlt]
  · simp [h, Array.getElem?_setIfInBounds, Ne.symm h]⟩
def rdyM (u : Nat) (rows : List Row) : List Row := rows.filter fun
  | .mk _ b w _ => Nat.beq (Nat.land u w) b
theorem rdyK_eq (u : Nat) : ∀ (rows : List Row) (k : List Row → Bool), rdyK u rows k = k (rdyM u rows)
  | [], k => rfl
  | .mk i b w c :: l, k => by
    unfold rdyK rdyM
    rw [List.filter_cons]
    split
    · rename_i h
      simp only [h]
      exact rdyK_eq u l _
    · rename_i h
      simp only [h]
      exact rdyK_eq u l _
theorem rdy_iff {listed : Array Bool} {u : Nat} (hm : Msk ops listed u) {i b w c : Nat} (hr : RowOk ops (.mk i b w c)) : Nat.beq (Nat.land u w) b = true ↔ (listed.getD i true = false ∧ ∃ o, ops[i]? = some o ∧ ∀ e ∈ o.after, Region.binds .any e = true → listed.getD e.on false = true) := by
  obtain ⟨o, h1, h2, h3, h4, _⟩ := hr
  constructor
  · intro h
    have h : u &&& w = b := beq_t h
    have hb : ∀ q, (u.testBit q && w.testBit q) = b.testBit q := fun q => by rw [← Nat.testBit_and, h]
    refine ⟨?_, o, h1, fun e he hbn => ?_⟩
    · have := hb i
      rw [h2, h3, orN_bit, orN_bit, hm.2] at this
      simpa using this
    · have hmem : e.on ∈ afts o := List.mem_map.2 ⟨e, List.mem_filter.2 ⟨by simpa using he, hbn⟩, rfl⟩
      obtain ⟨hlt, hne⟩ := h4 _ hmem
      have := hb e.on
      rw [h2, h3, orN_bit, orN_bit, hm.2] at this
      simp [hmem, hne] at this
      rw [← hm.1] at hlt
      simpa [hlt] using this
  · rintro ⟨g1, o', g2, g3⟩
    rw [h1] at g2
    injection g2 with g2
    subst g2
    have : u &&& w = b := by
      apply Nat.eq_of_testBit_eq
      intro q
      rw [Nat.testBit_and, h2, h3, orN_bit, orN_bit, hm.2]
      by_cases hq : q = i
      · subst hq; simp [g1]
      · by_cases hq2 : q ∈ afts o
        · obtain ⟨e, he, rfl⟩ := List.mem_map.1 hq2
          obtain ⟨he1, he2⟩ := List.mem_filter.1 he
          have g4 := g3 e (by simpa using he1) he2
          have hlt := (h4 _ hq2).1
          rw [← hm.1] at hlt
          simp [hlt] at g4
          simp [hq, hlt, g4]
        · simp [hq, hq2]
    show Nat.beq (u &&& w) b = true
    rw [this]
    exact Nat.beq_refl b
theorem rdy_eq {listed : Array Bool} {u : Nat} {rows : List Row} (hm : Msk ops listed u) (hr : RowsOk ops rows) : Region.ready .any ops listed = (rdyM u rows).map Row.nr := by
  have e : ∀ r ∈ rows, (match r with | .mk _ b w _ => Nat.beq (Nat.land u w) b) = decide (r.nr ∈ Region.ready .any ops listed) := fun r hr' => by
    obtain ⟨i, b, w, c⟩ := r
    have := rdy_iff hm (hr.1 _ hr')
    rw [← mem_ready] at this
    exact Bool.eq_iff_iff.2 (this.trans (decide_eq_true_iff).symm)
  have e2 : rdyM u rows = rows.filter fun r => decide (r.nr ∈ Region.ready .any ops listed) := List.filter_congr e
  rw [e2]
  have e3 : (rows.filter fun r => decide (r.nr ∈ Region.ready .any ops listed)).map Row.nr = (rows.map Row.nr).filter fun i => decide (i ∈ Region.ready .any ops listed) := by
    rw [List.filter_map]; rfl
  rw [e3, hr.2]
  unfold Region.ready
  refine List.filter_congr fun i hi => ?_
  refine Bool.eq_iff_iff.2 ?_
  rw [decide_eq_true_iff, List.mem_filter]
  exact ⟨fun h => ⟨hi, h⟩, fun h => h.2⟩
theorem free_t {listed : Array Bool} {u : Nat} (hm : Msk ops listed u) {i b w c : Nat} (hr : RowOk ops (.mk i b w c)) (h : Nat.beq (Nat.land u c) 0 = true) : Region.free .any ops listed i = true := by
  obtain ⟨o, h1, _, _, _, h5⟩ := hr
  unfold Region.free
  rw [h1]
  refine List.all_eq_true.2 fun j hj => ?_
  cases hl : listed.getD j true with
  | true => simp
  | false =>
    by_cases hji : j = i
    · simp [hji]
    · have hj : j < ops.size := List.mem_range.1 hj
      have hoj : ops[j]? = some ops[j] := Array.getElem?_eq_getElem hj
      rw [hoj]
      simp only [Bool.or_eq_true]
      refine .inr ?_
      rcases h5 j _ hoj hji with h6 | h6 | h6
      · obtain ⟨e, he, rfl⟩ := List.mem_map.1 h6
        obtain ⟨he1, he2⟩ := List.mem_filter.1 he
        refine .inl (Array.any_eq_true'.2 ⟨e, by simpa using he1, ?_⟩)
        simp [he2]
      · exact .inr h6
      · have := land0 h j (by rw [hm.2, hl]; rfl)
        rw [h6] at this
        cases this
theorem fndM_t {u : Nat} : ∀ {rs : List Row} {r : Row}, fndM P ops u rs = some r → r ∈ rs ∧ ∃ i b w c, r = .mk i b w c ∧ Nat.beq (Nat.land u c) 0 = true
  | [], r, h => by cases h
  | .mk i b w c :: l, r, h => by
    unfold fndM at h
    split at h
    · obtain ⟨h1, h2⟩ := fndM_t h
      exact ⟨List.mem_cons_of_mem _ h1, h2⟩
    · rename_i hz
      split at h
      · obtain ⟨h1, h2⟩ := fndM_t h
        exact ⟨List.mem_cons_of_mem _ h1, h2⟩
      · split at h
        · injection h with h
          subst h
          exact ⟨List.mem_cons_self .., i, b, w, c, rfl, hz⟩
        · obtain ⟨h1, h2⟩ := fndM_t h
          exact ⟨List.mem_cons_of_mem _ h1, h2⟩
theorem rdy1_t {listed : Array Bool} {u : Nat} {rows : List Row} {j : Nat} (hm : Msk ops listed u) (hr : RowsOk ops rows) (h : rdy1 u rows j = true) : Region.ready .any ops listed = [j] := by
  unfold rdy1 at h
  rw [rdyK_eq] at h
  rw [rdy_eq hm hr]
  split at h
  · rename_i a _ _ _ he
    rw [he, ← beq_t h]
    rfl
  · cases h
theorem parC_t {listed : Array Bool} {rows : List Row} {u i bi j bj : Nat} (hm : Msk ops listed u) (hr : RowsOk ops rows) (hbi : bi = orN [i]) (hbj : bj = orN [j]) (hi : listed.getD i true = false) (hj : listed.getD j true = false) (h : parC ops rows u i bi j bj = true) :
    ∃ oi oj, ops[i]? = some oi ∧ ops[j]? = some oj ∧ allocOp oi.op = true ∧ oi.guard = none ∧ oi.apart ops oj = true ∧ i ≠ j ∧ Region.ready .any ops (listed.setIfInBounds i true) = [j] ∧ Region.ready .any ops (listed.setIfInBounds j true) = [i] := by
  subst hbi hbj
  unfold parC at h
  split at h
  · rename_i oi oj hi' hj'
    simp only [Bool.and_eq_true] at h
    obtain ⟨⟨⟨⟨⟨h1, h2⟩, h3⟩, h4⟩, h5⟩, h6⟩ := h
    refine ⟨oi, oj, hi', hj', h1, by simpa using h2, h3, fun e => ?_, rdy1_t (hm.set hi) hr h5, rdy1_t (hm.set hj) hr h6⟩
    subst e
    simp at h4
  · cases h
theorem parK_t {listed : Array Bool} {tk : List Nat} {i j : Nat} {k : (DrF → DrF) → Bool} (hp : ∃ oi oj, ops[i]? = some oi ∧ ops[j]? = some oj ∧ allocOp oi.op = true ∧ oi.guard = none ∧ oi.apart ops oj = true ∧ i ≠ j ∧ Region.ready .any ops (listed.setIfInBounds i true) = [j] ∧ Region.ready .any ops (listed.setIfInBounds j true) = [i]) (hsel : ∀ (j : Nat) (o : Oper) cs b, ops[j]? = some o → o.op ≠ .select cs b) (hne : Region.ready .any ops listed ≠ []) (hmem : ∀ k ∈ Region.ready .any ops listed, k = i ∨ k = j) (h : parK P n ops (Region.before ops) tk i j k = true) :
    ∃ b : DrF → DrF, k b = true ∧ ∀ r fu, DrOk P n ops fu ((listed.setIfInBounds i true).setIfInBounds j true) tk r → DrOk P n ops (fu + 2) listed tk (b r) := by
  obtain ⟨oi, oj, hi, hj, ha, hg, hap, hij, hri, hrj⟩ := hp
  unfold parK at h
  rw [hi] at h
  have hnd := copK_nd h
  obtain ⟨f, kd, h1, hw, hA⟩ := copA_t ha h
  obtain ⟨s, hd, h2⟩ := dstK_t h1
  rcases hd with ⟨_, rfl⟩ | ⟨t, s, hdst, ht, rfl, hput⟩
  · cases h2
  · have h2 : (natsK (notBefore (Region.before ops) tk i) fun na => loudK P n ops (Region.before ops) tk j fun b => k fun r => dPar f (b (dOne na (rSet f s rNil) r))) = true := h2
    rw [natsK_eq] at h2
    obtain ⟨o2, f2, s2, gd2, ho2, hd2, hg2, hnd2, hw2, h3⟩ := loudK_t h2
    rw [hj] at ho2
    injection ho2 with ho2
    subst ho2
    exact ⟨_, h3, fun r fu hr => par_ok hi hj hg hdst ht hput hap hnd hnd2 hsel hd2 hg2 hw hA hw2 hne hmem hri hrj hij hr⟩
theorem schK_t (hsel : ∀ (j : Nat) (o : Oper) cs b, ops[j]? = some o → o.op ≠ .select cs b) {rows : List Row} (hrows : RowsOk ops rows) : ∀ (fu : Nat) {listed : Array Bool} {u : Nat} {tk : List Nat} {k : DrF → Bool}, closed ops listed → Msk ops listed u → schK P n ops (Region.before ops) rows (fu + 1) u tk k = true → ∃ r, DrOk P n ops fu listed tk r ∧ k r = true := by
  intro fu
  induction fu using Nat.strongRecOn with
  | ind fu ih0 =>
  intro listed u tk k hc hm h
  unfold schK at h
  rw [rdyK_eq] at h
  have hrd := rdy_eq hm hrows
  have hsub : ∀ r ∈ rdyM u rows, r ∈ rows := fun r hr => (List.mem_filter.1 hr).1
  have hun : ∀ r ∈ rdyM u rows, listed.getD r.nr true = false ∧ r.bt = orN [r.nr] ∧ r.nr ∈ Region.ready .any ops listed := fun r hr => by
    obtain ⟨i, b, w, c⟩ := r
    obtain ⟨_, _, h2, _⟩ := hrows.1 _ (hsub _ hr)
    have : i ∈ Region.ready .any ops listed := by rw [hrd]; exact List.mem_map.2 ⟨_, hr, rfl⟩
    exact ⟨(mem_ready.1 this).1, h2, this⟩
  -- no rounds are left
  have hz : ∀ {u tk k}, fu = 0 → schK P n ops (Region.before ops) rows fu u tk k = true → False := fun e h => by
    subst e; unfold schK at h; cases h
  split at h
  · rename_i hr
    exact ⟨_, dDone_ok (by rw [hrd, hr]; rfl), h⟩
  · rename_i r0 rl hre
    have ih : ∀ {listed u tk k}, closed ops listed → Msk ops listed u → schK P n ops (Region.before ops) rows fu u tk k = true → ∃ fu', fu = fu' + 1 ∧ ∃ r, DrOk P n ops fu' listed tk r ∧ k r = true := fun {listed u tk k} h1 h2 h3 => by
      cases fu with
      | zero => exact (hz rfl h3).elim
      | succ fu' => exact ⟨fu', rfl, ih0 fu' (by omega) h1 h2 h3⟩
    have hne : Region.ready .any ops listed ≠ [] := by rw [hrd, hre]; simp
    split at h
    · rename_i i b w c hfi
      obtain ⟨hmem, i', b', w', c', he, hfr⟩ := fndM_t hfi
      cases he
      rw [← hre] at hmem
      obtain ⟨hli, hb, hmem'⟩ := hun _ hmem
      have hb : b = orN [i] := hb
      subst hb
      split at h
      · rename_i o ho
        have hfree := free_t hm (hrows.1 _ (hsub _ hmem)) hfr
        have hnd := copK_nd h
        obtain ⟨f, kd, h1, hs⟩ := copK_t h
        obtain ⟨s, hd, h2⟩ := dstK_t h1
        obtain ⟨gd, hg, h3⟩ := gdK_t h2
        rw [fN_eq] at h3
        obtain ⟨fu', rfl, r, hr, h4⟩ := ih (hc.set hmem') (hm.set hli) h3
        rcases hd with ⟨_, rfl⟩ | ⟨t, s, hdst, ht, rfl, hput⟩
        · cases kd <;> rcases hg with ⟨_, rfl⟩ | ⟨_, _, _, _, _, _, _, rfl, _⟩ <;> cases h4
        · have qc : Qc P n ops listed i o t s := ⟨ho, hdst, ht, hput, hnd, hsel, hc, hfree, hmem'⟩
          have hsub : ∀ j ∈ tk, j ∈ (match readOp o.op with | true => i :: tk | false => tk) := fun j hj => by
            split
            · exact List.mem_cons_of_mem _ hj
            · exact hj
          cases hs with
          | loud => rcases hg with ⟨_, rfl⟩ | ⟨_, _, _, _, _, _, _, rfl, _⟩ <;> cases h4
          | quiet q =>
            rcases hg with ⟨hg1, rfl⟩ | ⟨j, wn, dj, g, hg1, hg2, hg3, rfl, hg4⟩
            · exact ⟨_, take_ok qc q hg1 hr hsub, h4⟩
            · exact ⟨_, takeG_ok qc q hg1 hg2 hg3 hg4 hr hsub, h4⟩
          | read hrdv q =>
            rcases hg with ⟨hg1, rfl⟩ | ⟨j, wn, dj, g, hg1, hg2, hg3, rfl, hg4⟩
            · obtain ⟨hro, h5⟩ := bi_f h4
              rw [fN_eq] at h5
              exact ⟨_, read_ok qc hrdv q hg1 hr hsub (by rw [hro]; simp), h5⟩
            · obtain ⟨hro, h5⟩ := bi_f h4
              rw [fN_eq] at h5
              exact ⟨_, readG_ok qc hrdv q hg1 hg2 hg3 hg4 hr hsub (by rw [hro]; simp), h5⟩
      · cases h
    · split at h
      · rename_i i b w c _
        have hre' : Region.ready .any ops listed = [i] := by rw [hrd, hre]; rfl
        obtain ⟨hli, hb, hmem'⟩ := hun (.mk i b w c) (by rw [hre]; simp)
        have hb : b = orN [i] := hb
        subst hb
        obtain ⟨o, f, s, gd, ho, hd, hg, hnd, hw, h1⟩ := loudK_t h
        rw [fN_eq] at h1
        obtain ⟨fu', rfl, r, hr, h2⟩ := ih (hc.set hmem') (hm.set hli) h1
        refine ⟨_, ⟨fun cf rb fr h x rds kf E R σ a w Ss hcf hrb e hfr H hrd htk => ⟨fun e1 => (by rw [hre'] at e1; cases e1), fun j hj => ?_⟩⟩, h2⟩
        rw [hre'] at hj
        simp at hj
        subst hj
        exact dOne_ok ho hd hg hnd hw hr hcf hrb e hfr H hrd htk
      · rename_i i b w c j b' w' c' _
        have hre' : Region.ready .any ops listed = [i, j] := by rw [hrd, hre]; rfl
        obtain ⟨hli, hb, hmi⟩ := hun (.mk i b w c) (by rw [hre]; simp)
        obtain ⟨hlj, hb', hmj⟩ := hun (.mk j b' w' c') (by rw [hre]; simp)
        have hb : b = orN [i] := hb
        have hb' : b' = orN [j] := hb'
        subst hb hb'
        have hli : listed.getD i true = false := hli
        have hlj : listed.getD j true = false := hlj
        have hmi : i ∈ Region.ready .any ops listed := hmi
        have hmj : j ∈ Region.ready .any ops listed := hmj
        have hmq : ∀ q ∈ Region.ready .any ops listed, q = i ∨ q = j := fun q hq => by
          rw [hre'] at hq
          simpa using hq
        split at h
        · rename_i hp
          have hp := parC_t hm hrows rfl rfl hli hlj hp
          split at h
          · cases h
          · rename_i fu2
            obtain ⟨b, h1, hb⟩ := parK_t hp hsel hne hmq h
            obtain ⟨_, _, _, _, _, _, _, hij, hri, _⟩ := hp
            rw [fN_eq] at h1
            cases fu2 with
            | zero => unfold schK at h1; cases h1
            | succ fu3 =>
              obtain ⟨r, hr, h2⟩ := ih0 fu3 (by omega) (hc.set hmi |>.set (by rw [hri]; simp)) ((hm.set hli).set (mem_ready.1 (by rw [hri]; simp : j ∈ Region.ready .any ops _)).1) h1
              exact ⟨_, hb r fu3 hr, h2⟩
        · split at h
          · rename_i hp
            have hp := parC_t hm hrows rfl rfl hlj hli hp
            split at h
            · cases h
            · rename_i fu2
              obtain ⟨b, h1, hb⟩ := parK_t hp hsel hne (fun q hq => (hmq q hq).symm) h
              obtain ⟨_, _, _, _, _, _, _, hij, hri, _⟩ := hp
              rw [fN_eq] at h1
              cases fu2 with
              | zero => unfold schK at h1; cases h1
              | succ fu3 =>
                obtain ⟨r, hr, h2⟩ := ih0 fu3 (by omega) (hc.set hmj |>.set (by rw [hri]; simp)) ((hm.set hlj).set (mem_ready.1 (by rw [hri]; simp : i ∈ Region.ready .any ops _)).1) h1
                exact ⟨_, hb r fu3 hr, h2⟩
          · obtain ⟨o, f, s, gd, ho, hd, hg, hnd, hw, h1⟩ := loudK_t h
            obtain ⟨o2, f2, s2, gd2, ho2, hd2, hg2, hnd2, hw2, h2⟩ := loudK_t h1
            rw [fN_eq] at h2
            obtain ⟨fu', rfl, r, hr, h3⟩ := ih (hc.set hmi) (hm.set hli) h2
            rw [fN_eq] at h3
            obtain ⟨fu'', he, r2, hr2, h4⟩ := ih (hc.set hmj) (hm.set hlj) h3
            obtain rfl : fu' = fu'' := by omega
            refine ⟨_, ⟨fun cf rb fr h x rds kf E R σ a w Ss hcf hrb e hfr H hrd htk => ⟨fun e1 => (by rw [hre'] at e1; cases e1), fun j' hj => ?_⟩⟩, h4⟩
            obtain ⟨e1, e2⟩ := bi_f e
            rw [hre'] at hj
            simp at hj
            rcases hj with rfl | rfl
            · exact dOne_ok ho hd hg hnd hw hr hcf hrb e1 hfr H hrd htk
            · exact dOne_ok ho2 hd2 hg2 hnd2 hw2 hr2 hcf hrb e2 hfr H hrd htk
      · cases h
end
end Go.Rc
namespace Go.Rc
open Go Go.Sym
inductive MarksOk (σ : Sg) : L → List Deferred → Prop
  | nil : MarksOk σ .nil []
  | cons {p b c l ds} (h : σ p = some (b, c)) (h2 : MarksOk σ l ds) : MarksOk σ (.cons p l) ({ target := .collected b, args := #[] } :: ds)
theorem MarksOk.mono {σ τ : Sg} {l : L} {ds : List Deferred} (h : MarksOk σ l ds) (hs : Ext σ τ) : MarksOk τ l ds := by
  induction h with
  | nil => exact .nil
  | cons h _ ih => exact .cons (hs _ _ h) ih
def RoOk (σ : Sg) (rd : L) (ro : Option Nat) : Prop := (rd = .nil ∧ ro = none) ∨ ∃ p b c, rd = .cons p .nil ∧ σ p = some (b, c) ∧ ro = some b
theorem RoOk.mono {σ τ : Sg} {l : L} {ro : Option Nat} (h : RoOk σ l ro) (hs : Ext σ τ) : RoOk τ l ro := by
  rcases h with h | ⟨p, b, c, h1, h2, h3⟩
  · exact .inl h
  · exact .inr ⟨p, b, c, h1, hs _ _ h2, h3⟩
structure XOk (σ : Sg) (x : X) (ro : Option Nat) (ds : List Deferred) : Prop where
  df : MarksOk σ x.df ds
  rd : RoOk σ x.rd ro
theorem XOk.mono {σ τ : Sg} {x : X} {ro : Option Nat} {ds : List Deferred} (h : XOk σ x ro ds) (hs : Ext σ τ) : XOk τ x ro ds := ⟨h.df.mono hs, h.rd.mono hs⟩
section
variable {P : Program} {n : Nat}
def Lands (P : Program) (b : Frame) (kk : List Item) (cs : List Frame) (a : Act) (w : World) (m : Machine) : Nat → Prop
  | 0 => Steps P m (lone (b.atR a kk) cs w)
  | 1 => ∃ k2, Steps P m (lone (b.atR a (.code .ret :: k2)) cs w)
  | id + 2 => ∃ k2, exitTo id k2 = exitTo id kk ∧ Steps P m (lone (b.atR a (.code (.exit id) :: k2)) cs w)
theorem Lands.of_steps {b : Frame} {kk : List Item} {cs : List Frame} {a : Act} {w : World} {m m1 : Machine} (hs : Steps P m m1) : ∀ {e : Nat}, Lands P b kk cs a w m1 e → Lands P b kk cs a w m e
  | 0, h => Steps.trans hs h
  | 1, ⟨k2, h⟩ => ⟨k2, Steps.trans hs h⟩
  | _ + 2, ⟨k2, h1, h⟩ => ⟨k2, h1, Steps.trans hs h⟩
/-- ways out that are none of the items ahead -/
theorem Lands.past {b : Frame} {kk : List Item} {it : Item} {cs : List Frame} {a : Act} {w : World} {m : Machine} : ∀ {e : Nat}, Lands P b (it :: kk) cs a w m (e + 1) → (∀ id, e = id + 1 → exitTo id (it :: kk) = exitTo id kk) → Lands P b kk cs a w m (e + 1)
  | 0, ⟨k2, h⟩, _ => ⟨k2, h⟩
  | id + 1, ⟨k2, h1, h⟩, hx => ⟨k2, h1.trans (hx id rfl), h⟩
def Out (P : Program) (E : Env) (R : List Blk) (n : Nat) (ks : KS) (σ : Sg) (h : Hp) (w : World) (b : Frame) (kk : List Item) (cs : List Frame) (m : Machine) : Prop :=
  ∃ e fr' h' x' σ' a' w', ks e fr' h' x' = true ∧ FrOk σ' n fr' a' ∧ Step P E R σ h w σ' h' w' ∧ XOk σ' x' b.roundOf a'.defers ∧ Lands P b kk cs a' w' m e
structure DenOk (P : Program) (n : Nat) (c : Code) (d : Den) : Prop where
  ok : ∀ cf rb fr h x ks E R σ a w b kk cs, CfOk P cf → RbOk P rb σ → d cf rb fr h x ks = true → FrOk σ n fr a → HR P E R σ h w → XOk σ x b.roundOf a.defers → b.kind = .normal →
    Out P E R n ks σ h w b kk cs (lone (b.atR a (.code c :: kk)) cs w)
theorem Out.steps {E : Env} {R : List Blk} {ks : KS} {σ σ1 : Sg} {h h1 : Hp} {w w1 : World} {b : Frame} {kk : List Item} {cs : List Frame} {m m1 : Machine} (hs : Steps P m m1) (s : Step P E R σ h w σ1 h1 w1) (H : Out P E R n ks σ1 h1 w1 b kk cs m1) : Out P E R n ks σ h w b kk cs m := by
  obtain ⟨e, fr', h', x', σ', a', w', q1, q2, q3, q4, q5⟩ := H
  exact ⟨e, fr', h', x', σ', a', w', q1, q2, s.trans q3, q4, q5.of_steps hs⟩
theorem skip_ok : DenOk P n .skip cSkip := ⟨fun cf rb fr h x ks E R σ a w b kk cs _ _ e hf H hx _ => ⟨0, fr, h, x, σ, a, w, e, hf, .refl H, hx, .one stepR_skip⟩⟩
theorem label_ok {l : Nat} : DenOk P n (.label l) cSkip := ⟨fun cf rb fr h x ks E R σ a w b kk cs _ _ e hf H hx _ => ⟨0, fr, h, x, σ, a, w, e, hf, .refl H, hx, .one stepR_label⟩⟩
theorem exit_ok {id : Nat} : DenOk P n (.exit id) (cExit id) := ⟨fun cf rb fr h x ks E R σ a w b kk cs _ _ e hf H hx _ => ⟨id + 2, fr, h, x, σ, a, w, e, hf, .refl H, hx, kk, rfl, Steps.refl _ _⟩⟩
theorem ret_ok : DenOk P n .ret cRet := ⟨fun cf rb fr h x ks E R σ a w b kk cs _ _ e hf H hx _ => ⟨1, fr, h, x, σ, a, w, e, hf, .refl H, hx, kk, Steps.refl _ _⟩⟩
theorem cond_ok {c : Operand} {c1 c2 : Code} {g : G} {d1 d2 : Den} (hg : GOk n c g) (h1 : DenOk P n c1 d1) (h2 : DenOk P n c2 d2) : DenOk P n (.cond c c1 c2) (cCond g d1 d2) := ⟨fun cf rb fr h x ks E R σ a w b kk cs hcf hrb e hf H hx hk => by
  obtain ⟨val, v1, v2⟩ := hg.ex
  have e1 := v1 _ _ e
  have hr := v2 σ fr a hf
  obtain ⟨tg, y, b2, d, p, l, r, hv, e2⟩ := onC_t e1
  rw [hv] at hr
  obtain ⟨h0, e3⟩ := bi_f e2
  have h0 := beq_t h0
  subst h0
  obtain ⟨u, hu, hb⟩ := hr.c0
  rcases bi_t e3 with ⟨h3, e4⟩ | ⟨h3, e4⟩
  · have h3 := beq_t h3
    have : u = true := by subst hb; cases u <;> first | rfl | cases h3
    subst this
    exact Out.steps (.one (stepR_cond hu)) (.refl H) (h1.ok cf rb fr h x ks E R σ a w b kk cs hcf hrb e4 hf H hx hk)
  · have h3 := beq_f h3
    have : u = false := by subst hb; cases u <;> first | rfl | exact absurd rfl h3
    subst this
    exact Out.steps (.one (stepR_cond hu)) (.refl H) (h2.ok cf rb fr h x ks E R σ a w b kk cs hcf hrb e4 hf H hx hk)⟩
theorem seq_ok {c1 c2 : Code} {d1 d2 : Den} (h1 : DenOk P n c1 d1) (h2 : DenOk P n c2 d2) : DenOk P n (.seq c1 c2) (cSeq d1 d2) := ⟨fun cf rb fr h x ks E R σ a w b kk cs hcf hrb e hf H hx hk => by
  obtain ⟨e1, fr', h', x', σ', a', w', q1, q2, q3, q4, q5⟩ := h1.ok cf rb fr h x _ E R σ a w b (.code c2 :: kk) cs hcf hrb e hf H hx hk
  refine Out.steps (.one stepR_seq) (.refl H) ?_
  cases e1 with
  | zero => exact Out.steps q5 q3 (h2.ok cf rb fr' h' x' ks E R σ' a' w' b kk cs hcf (hrb.mono q3.ext) q1 q2 q3.hr q4 hk)
  | succ e1 => exact ⟨e1 + 1, fr', h', x', σ', a', w', q1, q2, q3, q4, q5.past fun id _ => rfl⟩⟩
theorem block_ok {id : Nat} {c : Code} {d : Den} (h1 : DenOk P n c d) : DenOk P n (.block id c) (cBlock id d) := ⟨fun cf rb fr h x ks E R σ a w b kk cs hcf hrb e hf H hx hk => by
  obtain ⟨e1, fr', h', x', σ', a', w', q1, q2, q3, q4, q5⟩ := h1.ok cf rb fr h x _ E R σ a w b (.inBlock id :: kk) cs hcf hrb e hf H hx hk
  refine Out.steps (.one stepR_block) (.refl H) ?_
  rcases bi_t q1 with ⟨h2, h3⟩ | ⟨h2, h3⟩
  · have h2 : e1 = id + 2 := beq_t h2
    subst h2
    obtain ⟨k2, h4, h5⟩ := q5
    have h6 : exitTo id k2 = some kk := by rw [h4]; simp [exitTo]
    exact ⟨0, fr', h', x', σ', a', w', h3, q2, q3, q4, Steps.trans h5 (.one (stepR_exit h6))⟩
  · have h2 : e1 ≠ id + 2 := beq_f h2
    cases e1 with
    | zero => exact ⟨0, fr', h', x', σ', a', w', h3, q2, q3, q4, Steps.trans q5 (.one stepR_inBlock)⟩
    | succ e1 =>
      refine ⟨e1 + 1, fr', h', x', σ', a', w', h3, q2, q3, q4, q5.past fun id' he => ?_⟩
      have : id ≠ id' := fun h => h2 (by omega)
      simp [exitTo, this]⟩
theorem loopN_ok {c : Code} {d : Den} (h1 : DenOk P n c d) {cf : Cf} {rb : RB} {ks : KS} {E : Env} {R : List Blk} {b : Frame} {kk : List Item} {cs : List Frame} (hcf : CfOk P cf) (hk : b.kind = .normal) : ∀ (N : Nat) {fr : T} {h : Hp} {x : X} {σ : Sg} {a : Act} {w : World}, RbOk P rb σ → loopN d cf rb N fr h x ks = true → FrOk σ n fr a → HR P E R σ h w → XOk σ x b.roundOf a.defers →
    Out P E R n ks σ h w b kk cs (lone (b.atR a (.code c :: .inLoop c :: kk)) cs w)
  | 0, _, _, _, _, _, _, _, e, _, _, _ => by cases e
  | N + 1, fr, h, x, σ, a, w, hrb, e, hf, H, hx => by
    obtain ⟨e1, fr', h', x', σ', a', w', q1, q2, q3, q4, q5⟩ := h1.ok cf rb fr h x _ E R σ a w b (.inLoop c :: kk) cs hcf hrb e hf H hx hk
    cases e1 with
    | zero => exact Out.steps (Steps.trans q5 (.one stepR_inLoop)) q3 (loopN_ok h1 hcf hk N (hrb.mono q3.ext) q1 q2 q3.hr q4)
    | succ e1 => exact ⟨e1 + 1, fr', h', x', σ', a', w', q1, q2, q3, q4, q5.past fun id _ => rfl⟩
theorem loop_ok {N : Nat} {c : Code} {d : Den} (h1 : DenOk P n c d) : DenOk P n (.loop c) (cLoop N d) := ⟨fun cf rb fr h x ks E R σ a w b kk cs hcf hrb e hf H hx hk =>
  Out.steps (.one stepR_loop) (.refl H) (loopN_ok h1 hcf hk N hrb e hf H hx)⟩
theorem reg_ok {id : Nat} {ops : Array Oper} {r : RgF} (hr : RegOk P n ops (List.range' 0 ops.toList.length) r) : DenOk P n (.region id ops false) (cReg r) := ⟨fun cf rb fr h x ks E R σ a w b kk cs hcf hrb e hf H hx hk => by
  have h1 := hr.ok cf rb fr h x _ E R σ a w hcf hrb e hf H
  obtain ⟨a', w', ⟨fr', h', σ', q1, q2, q3, q4⟩, h2⟩ := runL_steps (b := b) (k := kk) (cs := cs) _ _ _ h1
  rw [← List.range_eq_range', Array.length_toList] at h2
  exact ⟨0, fr', h', x, σ', a', w', q1, q2, q3, by rw [q4]; exact hx.mono q3.ext, .head stepR_region h2⟩⟩
theorem runL_WR {ops : Array Oper} {Φ : Act → World → Prop} : ∀ (l : List Nat) (a : Act) (w : World), runL (OpW P) ops Φ l a w → runL (OpR P) ops Φ l a w
  | [], _, _, h => h
  | i :: l, a, w, h => by
    unfold runL at h ⊢
    cases ho : ops[i]? with
    | none => rw [ho] at h; exact runL_WR l a w h
    | some o =>
      rw [ho] at h
      obtain ⟨hd, h⟩ := h
      exact ⟨hd, h.imp (fun ⟨h1, h2⟩ => ⟨h1, .inl (h2.mono fun x w' h3 => runL_WR l _ _ h3)⟩) fun ⟨h1, h2⟩ => ⟨h1, runL_WR l _ _ h2⟩⟩
theorem drw_ok {id : Nat} {ops : Array Oper} {r : DrF} (hm : P.follows .mixedOrders = true) (hr : DrOk P n ops ops.size (Array.replicate ops.size false) [] r) : DenOk P n (.region id ops true) (cDrw r) := ⟨fun cf rb fr h x ks E R σ a w b kk cs hcf hrb e hf H hx hk => by
  let w1 : World := { w with drawn := w.drawn + 1 }
  have s1 : Step P E R σ h w σ h w1 := Step.world H rfl rfl
  have h1 := hr.ok cf rb fr h x .nil _ E R σ a w1 [] hcf hrb e hf s1.hr (fun s hs => by simp at hs) (fun s hs => by simp at hs)
  have h2 := runL_WR _ _ _ (anyD_sound _ (w.tape w.drawn (.order b.fn id)) _ _ _ _ h1)
  obtain ⟨a', w', ⟨fr', h', σ', q1, q2, q3, q4⟩, h3⟩ := runL_steps (b := b) (k := kk) (cs := cs) _ _ _ h2
  refine ⟨0, fr', h', x, σ', a', w', q1, q2, s1.trans q3, by rw [q4]; exact hx.mono q3.ext, .head stepR_region_draw ?_⟩
  simp only [Region.schedule, hm, Bool.true_or, if_true]
  exact h3⟩
end
end Go.Rc
namespace Go.Rc
open Go Go.Sym
section
variable {P : Program} {n : Nat}
theorem setPs_t {ps : V} : ∀ {args : V} {tm : T} {k : T → Bool}, setPs ps args tm k = true → ∃ fr, k fr = true ∧ ∀ σ (tmps : Array Value) (pl : List Nat) (vals : List Value), PsOk n ps pl → RelL σ args vals → FrOk σ n tm { tmps := tmps, defers := [] } →
    vals.length = pl.length ∧ FrOk σ n fr { tmps := (pl.zip vals).foldl (fun tmps p => tmps.setIfInBounds p.1 p.2) tmps, defers := [] } := by
  induction ps with
  | n =>
    intro args tm k h
    rcases onL_t h with ⟨rfl, h1⟩ | ⟨_, _, _, _, _, _, _, _, h1⟩
    · refine ⟨tm, h1, fun σ tmps pl vals hp hr hf => ?_⟩
      cases hp
      rw [hr.n]
      exact ⟨rfl, hf⟩
    · cases h1
  | c t a b d p l r _ ih =>
    intro args tm k h
    have h : onL args false (fun v q => T.setK v p tm fun t' => setPs r q t' k) = true := h
    rcases onL_t h with ⟨_, h1⟩ | ⟨_, _, _, _, _, v, q, rfl, h1⟩
    · cases h1
    · rw [T.setK_eq] at h1
      obtain ⟨fr, h2, h3⟩ := ih h1
      refine ⟨fr, h2, fun σ tmps pl vals hp hr hf => ?_⟩
      obtain ⟨u, ul, rfl, h4, h5⟩ := hr.c
      cases hp with
      | cons hq hp =>
        rename_i qn qs _
        have hf2 : FrOk σ n (tm.set v (posOf qn)) { tmps := tmps.setIfInBounds qn u, defers := [] } := hf.put hq h4
        obtain ⟨h6, h7⟩ := h3 σ _ qs ul hp h5 hf2
        exact ⟨by simp [h6], h7⟩
theorem psK_t : ∀ {l : List Nat} {k : V → Bool}, psK n l k = true → ∃ ps, PsOk n ps l ∧ k ps = true
  | [], k, h => ⟨.n, .nil, h⟩
  | p :: l, k, h => by
    obtain ⟨h1, h2⟩ := bi_f (b := Nat.blt p n) h
    rw [posK_eq] at h2
    obtain ⟨ps, h3, h4⟩ := psK_t h2
    exact ⟨_, .cons (blt_t h1) h3, h4⟩
/-- the loop that a name stands for -/
theorem HR.lp {E : Env} {R : List Blk} {σ : Sg} {h : Hp} {w : World} (H : HR P E R σ h w) {p : Pos} {s m : Nat} {tm : T} {ps : V} {d : Pos} (ha : h.t.at p = .lp s m tm ps d) {bl : Nat} {ac bd : Code} (hs : σ p = some (bl, .lp n ac bd)) :
    Live h p ∧ ∃ (tmps : Array Value) (pl : List Nat) (db : Nat) (dc : Gh) (fn : FuncId), m = n ∧ FrOk σ n tm { tmps := tmps, defers := [] } ∧ PsOk n ps pl ∧ σ d = some (db, dc) ∧ w.heap[bl]? = some (.loop { state := (lstOf s).1, pending := (lstOf s).2, fn := fn, tmps := tmps, params := pl.toArray, assign := ac, body := bd, defers := db }) := by
  have hl : Live h p := by unfold Live; rw [ha]; simp
  obtain ⟨b, c, ob, h1, h2, h3⟩ := H.live p hl
  rw [hs] at h1
  injection h1 with h1
  injection h1 with h1 h4
  subst h1 h4
  rw [ha] at h3
  cases h3 with
  | lp hf hp hd => exact ⟨hl, _, _, _, _, _, rfl, hf, hp, hd, h2⟩
theorem put_lp {E : Env} {R : List Blk} {σ : Sg} {h : Hp} {w : World} (H : HR P E R σ h w) {p : Pos} (hl : Live h p) {bl : Nat} {ac bd : Code} (hs : σ p = some (bl, .lp n ac bd)) {r : Loop} (hr : w.heap[bl]? = some (.loop r)) {s : Nat} {tm : T} {ps : V} {d : Pos} {tmps : Array Value} {pl : List Nat} {db : Nat} {dc : Gh} {fn : FuncId} (hf : FrOk σ n tm { tmps := tmps, defers := [] }) (hp : PsOk n ps pl) (hd : σ d = some (db, dc)) :
    Step P E R σ h w σ (h.put p (.lp s n tm ps d)) (w.putObj bl (.loop { state := (lstOf s).1, pending := (lstOf s).2, fn := fn, tmps := tmps, params := pl.toArray, assign := ac, body := bd, defers := db })) :=
  .put H hl hs (World.putObj_heap_same (Array.getElem?_eq_some_iff.1 hr).1) (fun j hj => World.putObj_heap_other hj) rfl (.inr (.lp hf hp hd))
theorem rounds_ok {cac cbd : Code} {ac bd : Den} (hac : DenOk P n cac ac) (hbd : DenOk P n cbd bd) {cf : Cf} {rb : RB} (hcf : CfOk P cf) {σ : Sg} (hrb : RbOk P rb σ) {l : Pos} {bl : Nat} (hl : σ l = some (bl, .lp n cac cbd)) : RbOk P (rbIn ac bd cf rb l) σ := fun τ E R p args h k w vals hext e H hargs => by
  rcases bi_t e with ⟨hp, e1⟩ | ⟨_, e1⟩
  · have hp := (Pos.eq_iff _ _).1 hp
    subst hp
    have hs := hext _ _ hl
    refine ⟨bl, _, hl, ?_⟩
    obtain ⟨s, m, tm, ps, d, ha, e2⟩ := onLp_t (hget_t e1)
    obtain ⟨h0, e3⟩ := bi_f e2
    have h0 := beq_t h0
    subst h0
    obtain ⟨hlive, tmps, pl, db, dc, fn, rfl, hf, hps, hd, hobj⟩ := H.lp ha hs
    obtain ⟨fr, e4, h4⟩ := setPs_t (n := m) e3
    obtain ⟨hlen, hfr⟩ := h4 τ tmps pl vals hps hargs hf
    have hy := run_yield (P := P) (args := vals.toArray) hobj (by simpa using hlen)
    have hfold : ((pl.toArray.zip vals.toArray).foldl (fun tmps (x : Nat × Value) => tmps.setIfInBounds x.1 x.2) tmps) = (pl.zip vals).foldl (fun tmps p => tmps.setIfInBounds p.1 p.2) tmps := by
      simp [List.zip_toArray]
    refine ⟨fn, _, cac, cbd, hy, fun c cs => ?_⟩
    let b : Frame := { fn := fn, tmps := #[], todo := [], defers := [], mode := .run, kind := .normal, roundOf := some bl }
    let a0 : Act := { tmps := (pl.zip vals).foldl (fun tmps p => tmps.setIfInBounds p.1 p.2) tmps, defers := [] }
    have hstart : Frame.round bl fn ((pl.toArray.zip vals.toArray).foldl (fun tmps (x : Nat × Value) => tmps.setIfInBounds x.1 x.2) tmps) cac cbd .normal = b.atR a0 [.code cac, .beginRound, .code cbd] := by
      rw [hfold]; rfl
    obtain ⟨e5, fr1, h1, x1, σ1, a1, w1, q1, q2, q3, q4, q5⟩ := hac.ok cf rb fr h _ _ E R τ a0 w b [.beginRound, .code cbd] (c :: cs) hcf (hrb.mono hext) e4 hfr H ⟨.nil, .inr ⟨p, bl, _, rfl, hs, rfl⟩⟩ rfl
    obtain ⟨h5, e6⟩ := bi_f q1
    have h5 := beq_t h5
    subst h5
    obtain ⟨s1, m1, tm1, ps1, d1, ha1, e7⟩ := onLp_t (hget_t e6)
    obtain ⟨h6, e8⟩ := bi_f e7
    have h6 := beq_t h6
    subst h6
    have hs1 := q3.ext _ _ hs
    obtain ⟨hlive1, tmps1, pl1, db1, dc1, fn1, rfl, hf1, hps1, hd1, hobj1⟩ := q3.hr.lp ha1 hs1
    rw [hput_eq] at e8
    have sp := put_lp (s := 1) (fn := fn1) q3.hr hlive1 hs1 hobj1 hf1 hps1 hd1
    have hbegin := run_beginRound (P := P) hobj1 rfl
    obtain ⟨e9, fr2, h2, x2, σ2, a2, w2, r1, r2, r3, r4, r5⟩ := hbd.ok cf rb fr1 _ x1 _ E R σ1 a1 _ b [] (c :: cs) hcf (hrb.mono (hext.trans q3.ext)) e8 q2 sp.hr q4 rfl
    obtain ⟨s3, m3, tm3, ps3, d3, ha3, e10⟩ := onLp_t (hget_t r1)
    obtain ⟨h7, e11⟩ := bi_f e10
    have h7 := beq_t h7
    subst h7
    have hs2 := r3.ext _ _ hs1
    obtain ⟨hlive3, tmps3, pl3, db3, dc3, fn3, rfl, hf3, hps3, hd3, hobj3⟩ := r3.hr.lp ha3 hs2
    have hsteps : Steps P (lone (b.atR a0 [.code cac, .beginRound, .code cbd]) (c :: cs) w) (lone (b.atR a1 [.code cbd]) (c :: cs) (w1.putObj bl (.loop { state := (lstOf 1).1, pending := (lstOf 1).2, fn := fn1, tmps := tmps1, params := pl1.toArray, assign := cac, body := cbd, defers := db1 }))) :=
      Steps.trans q5 (.one (stepR_beginRound rfl hbegin))
    have hall := q3.trans (sp.trans r3)
    obtain ⟨df, rd⟩ := x2
    cases df with
    | cons _ _ => cases e11
    | nil =>
      rw [hstart]
      cases e9 with
      | zero =>
        have e12 : hput h2 p (.lp 0 m3 tm3 ps3 d3) (fun h4 => k vT h4) = true := e11
        rw [hput_eq] at e12
        have sp2 := put_lp (s := 0) (fn := fn3) r3.hr hlive3 hs2 hobj3 hf3 hps3 hd3
        refine ⟨.bool true, _, ⟨vT, σ2, _, e12, .tt _, hall.trans sp2⟩, ?_⟩
        exact Steps.trans hsteps (Steps.trans r5 (.one (stepR_round_end rfl rfl (run_endRound (P := P) none hobj3))))
      | succ e9 =>
        have e12 : hput h2 p (.lp (Nat.add e9 3) m3 tm3 ps3 d3) (fun h4 => k vF h4) = true := e11
        rw [hput_eq] at e12
        have sp2 := put_lp (s := e9 + 3) (fn := fn3) r3.hr hlive3 hs2 hobj3 hf3 hps3 hd3
        refine ⟨.bool false, _, ⟨vF, σ2, _, e12, .ff _, hall.trans sp2⟩, ?_⟩
        cases e9 with
        | zero =>
          obtain ⟨k2, r6⟩ := r5
          exact Steps.trans hsteps (Steps.trans r6 (.one (stepR_round_ret rfl rfl (run_endRound (P := P) (some .ret) hobj3))))
        | succ id =>
          obtain ⟨k2, hx, r6⟩ := r5
          exact Steps.trans hsteps (Steps.trans r6 (.one (stepR_round_exit rfl rfl hx (run_endRound (P := P) (some (.exit id)) hobj3))))
  · exact hrb τ E R p args h k w vals hext e1 H hargs
end
end Go.Rc
namespace Go.Rc
open Go Go.Sym
section
variable {P : Program} {n : Nat}
theorem rfGo_ok {f : Operand} {gf : G} {ps : V} {pl : List Nat} {cac cbd : Code} {ac bd : Den} (hF : GOk n f gf) (hps : PsOk n ps pl) (hac : DenOk P n cac ac) (hbd : DenOk P n cbd bd) {cf : Cf} {rb : RB} (hcf : CfOk P cf)
    {E : Env} {R : List Blk} {σ : Sg} {fr : T} {h : Hp} {x : X} {ks : KS} {a : Act} {w w1 : World} {b : Frame} {kk : List Item} {cs : List Frame} {d : Pos} {db : Nat} {dc : Gh} {mark : List Deferred} (hrb : RbOk P rb σ) (e : rfGo n gf ps ac bd cf rb fr d h x ks = true) (hfr : FrOk σ n fr a) (H : HR P E R σ h w1) (hd : σ d = some (db, dc)) (hx : XOk σ x b.roundOf (mark ++ a.defers))
    (hen : (Instr.enterLoop b.fn a.tmps pl.toArray cac cbd b.roundOf).run P w = .ok (w1.heap.size, mark) (w1.alloc (.loop { state := .ready, pending := none, fn := b.fn, tmps := a.tmps, params := pl.toArray, assign := cac, body := cbd, defers := db }))) :
    Out P E R n ks σ h w1 b kk cs (lone (b.atR a (.code (.rangeFunc f pl.toArray cac cbd) :: kk)) cs w) := by
  unfold rfGo at e
  rw [hnew_eq] at e
  have hext := H.ext (w1.heap.size, Gh.lp n cac cbd)
  have s1 := Step.alloc (c := .lp n cac cbd) (ao := .lp 0 n fr ps d) (ob := .loop { state := .ready, pending := none, fn := b.fn, tmps := a.tmps, params := pl.toArray, assign := cac, body := cbd, defers := db }) H (.lp (s := 0) (tmps := a.tmps) ((hfr.defers []).mono hext) hps (hext _ _ hd))
  obtain ⟨vf, f1, f2⟩ := hF.ex
  have e1 := f1 _ _ e
  have hr := (f2 σ fr a hfr).mono hext
  obtain ⟨tg, _, _, _, g, fs, cl0, hv, e2⟩ := onC_t e1
  rw [hv] at hr
  obtain ⟨h0, e3⟩ := bi_f e2
  have h0 := beq_t h0
  subst h0
  obtain ⟨gi, fl, cl, hfv, rfl, hfl, hcl⟩ := hr.c7
  obtain ⟨q, e4, hq⟩ := appK_t e3
  have hself := upS_self σ h.nx (w1.heap.size, Gh.lp n cac cbd)
  have hargs := hq _ _ _ hfl (.cons (.yl hself) hcl)
  have hrounds := rounds_ok hac hbd hcf (hrb.mono hext) hself
  obtain ⟨gj, hp, hrun, hcall⟩ := hcf _ (posOf gi) q _ _ E R _ _ _ e4 hrounds s1.hr hargs
  obtain rfl := posOf_inj hp
  have hres : (resolve a.eval (rangeCall f w1.heap.size) 0).run P (w1.alloc (.loop { state := .ready, pending := none, fn := b.fn, tmps := a.tmps, params := pl.toArray, assign := cac, body := cbd, defers := db })) = .ok { target := .fn (.func gi) cl.toArray, args := fl.toArray ++ #[.func (.yield w1.heap.size) #[] #[]] } (w1.alloc (.loop { state := .ready, pending := none, fn := b.fn, tmps := a.tmps, params := pl.toArray, assign := cac, body := cbd, defers := db })) := by
    have h1 : resolve a.eval (rangeCall f w1.heap.size) 0 = Deferred.ofValue (a.eval f) #[.func (.yield w1.heap.size) #[] #[]] := by simp [resolve, Act.eval]
    rw [h1, hfv]
    rfl
  have hinv := hrun ((fl.toArray ++ #[.func (.yield w1.heap.size) #[] #[]]) ++ cl.toArray) (w1.alloc (.loop { state := .ready, pending := none, fn := b.fn, tmps := a.tmps, params := pl.toArray, assign := cac, body := cbd, defers := db }))
  have henter := stepR_rangeFunc (P := P) (b := b) (a := a) (k := kk) (cs := cs) (w := w) hen hres hinv
  have hall : (fl.toArray ++ #[Value.func (.yield w1.heap.size) #[] #[]]) ++ cl.toArray = (fl ++ Value.func (.yield w1.heap.size) #[] #[] :: cl).toArray := by simp
  rw [hall] at henter
  obtain ⟨en, w3, frx, ⟨xv, rfl, v, σ2, h2, e5, _, s2⟩, hsteps, hfn, hleave⟩ := hcall (b.atR { a with defers := mark ++ a.defers } (.inRangeFunc w1.heap.size :: kk) :: cs)
  have hsteps : Steps P _ _ := hsteps
  have hback : Steps P (lone (b.atR a (.code (.rangeFunc f pl.toArray cac cbd) :: kk)) cs w) (lone (b.atR { a with defers := mark ++ a.defers } (.endRangeFunc w1.heap.size :: kk)) cs w3) := by
    refine .head henter (Steps.trans hsteps (.one ?_))
    rw [← finish_atR_inRangeFunc w1.heap.size xv]; exact step_leave_returned hleave
  obtain ⟨s, m, tm, ps', d', ha, e6⟩ := onLp_t (hget_t e5)
  have hs2 := s2.ext _ _ hself
  obtain ⟨hlive, tmps', pl', db', dc', fn', rfl, _, _, _, hobj⟩ := s2.hr.lp ha hs2
  have hlt := (Array.getElem?_eq_some_iff.1 hobj).1
  have fin : ∀ (en : Nat) (jump : Option Code), (lstOf s).1 ≠ .busy → (lstOf s).2 = jump → (hput h2 h.nx .z fun h3 => ks en fr h3 x) = true →
      (∀ w4, Steps P (lone (b.atR a (.code (.rangeFunc f pl.toArray cac cbd) :: kk)) cs w) (lone (b.atR { a with defers := mark ++ a.defers } ((jump.map Item.code).toList ++ kk)) cs w4) → Lands P b kk cs { a with defers := mark ++ a.defers } w4 (lone (b.atR a (.code (.rangeFunc f pl.toArray cac cbd) :: kk)) cs w) en) →
      Out P E R m ks σ h w1 b kk cs (lone (b.atR a (.code (.rangeFunc f pl.toArray cac cbd) :: kk)) cs w) := fun en jump hb hj e7 hland => by
    have hend := run_endLoop (P := P) hobj hb
    subst hj
    rw [hput_eq] at e7
    have s3 : Step P E R σ2 h2 w3 σ2 (h2.put h.nx .z) (w3.putObj w1.heap.size (.loop { state := .exhausted, pending := (lstOf s).2, fn := fn', tmps := tmps', params := pl'.toArray, assign := cac, body := cbd, defers := db' })) := Step.put (ao := .z) s2.hr hlive hs2 (World.putObj_heap_same hlt) (fun j hj => World.putObj_heap_other hj) rfl (.inl rfl)
    have sall := s1.trans (s2.trans s3)
    refine ⟨en, fr, _, x, σ2, { a with defers := mark ++ a.defers }, _, e7, (hfr.defers _).mono sall.ext, sall, hx.mono sall.ext, hland _ (Steps.trans hback (.one (stepR_endRangeFunc hend)))⟩
  cases s with
  | zero => exact fin 0 none (by simp [lstOf]) rfl e6 fun w4 hs => hs
  | succ s =>
    cases s with
    | zero => cases e6
    | succ s =>
      cases s with
      | zero => exact fin 0 none (by simp [lstOf]) rfl e6 fun w4 hs => hs
      | succ s =>
        cases s with
        | zero => exact fin 1 (some .ret) (by simp [lstOf]) rfl e6 fun w4 hs => ⟨kk, hs⟩
        | succ id => exact fin (id + 2) (some (.exit id)) (by simp [lstOf]) rfl e6 fun w4 hs => ⟨kk, rfl, hs⟩
theorem rf_ok {f : Operand} {gf : G} {ps : V} {pl : List Nat} {cac cbd : Code} {ac bd : Den} (hF : GOk n f gf) (hps : PsOk n ps pl) (hac : DenOk P n cac ac) (hbd : DenOk P n cbd bd) : DenOk P n (.rangeFunc f pl.toArray cac cbd) (cRf n gf ps ac bd) := ⟨fun cf rb fr h x ks E R σ a w b kk cs hcf hrb e hf H hx hk => by
  obtain ⟨df, rd⟩ := x
  obtain ⟨hdf, hrd⟩ := hx
  cases rd with
  | nil =>
    have e1 : (hnew h (.o 5 0 .h .n) fun d h' => rfGo n gf ps ac bd cf rb fr d h' ⟨.cons d df, .nil⟩ ks) = true := e
    rw [hnew_eq] at e1
    have hro : b.roundOf = none := by
      rcases hrd with ⟨_, h⟩ | ⟨_, _, _, h, _⟩
      · exact h
      · cases h
    have s1 := Step.alloc (c := .c 0) (ao := .o 5 0 .h .n) (ob := .deferred (some [])) H .mark
    have hself := upS_self σ h.nx (w.heap.size, Gh.c 0)
    have hen := run_enterLoop_outer (P := P) (w := w) b.fn a.tmps pl.toArray cac cbd
    have hsz : (w.alloc (.deferred (some []))).heap.size = w.heap.size + 1 := World.size_alloc _ _
    rw [← hsz, ← hro] at hen
    exact Out.steps (Steps.refl _ _) s1 (rfGo_ok hF hps hac hbd hcf (hrb.mono s1.ext) e1 (hf.mono s1.ext) s1.hr hself ⟨.cons hself (hdf.mono s1.ext), .inl ⟨rfl, hro⟩⟩ hen)
  | cons p rest =>
    have e1 : (hget h p fun a => onLp a fun _ _ _ _ d => rfGo n gf ps ac bd cf rb fr d h ⟨df, .cons p rest⟩ ks) = true := e
    obtain ⟨s0, m0, tm0, ps0, d0, ha, e2⟩ := onLp_t (hget_t e1)
    rcases id hrd with ⟨h1, _⟩ | ⟨p', b0, c0, h1, h2, h3⟩
    · cases h1
    · injection h1 with h1 h4
      subst h1 h4
      have hl : Live h p := by unfold Live; rw [ha]; simp
      obtain ⟨b1, c1, ob, h5, h6, h7⟩ := H.live p hl
      rw [h2] at h5
      injection h5 with h5
      injection h5 with h5 h8
      subst h5 h8
      rw [ha] at h7
      cases h7 with
      | lp hf0 hp0 hd0 =>
        have hen := run_enterLoop_inner (P := P) h6 b.fn a.tmps pl.toArray cac cbd
        rw [← h3] at hen
        exact rfGo_ok (mark := []) hF hps hac hbd hcf hrb e2 hf H hd0 ⟨hdf, hrd⟩ hen⟩
end
end Go.Rc
namespace Go.Rc
open Go Go.Sym
section
variable {P : Program} {n : Nat}
theorem denK_t : ∀ (c : Code) {k : Den → Bool}, denK P n c k = true → ∃ d, DenOk P n c d ∧ k d = true
  | .skip, k, h => ⟨_, skip_ok, h⟩
  | .label _, k, h => ⟨_, label_ok, h⟩
  | .region _ ops false, k, h => by
    obtain ⟨r, h1, h2⟩ := regK_t (P := P) (n := n) (ops := ops) (i := 0) (k := fun r => k (cReg r)) (fun j o hj => by rw [Nat.zero_add]; simpa using hj) h
    exact ⟨_, reg_ok h1, h2⟩
  | .region _ ops true, k, h => by
    obtain ⟨h0, h1⟩ := bi_f (b := Region.noSelect ops && noDefer ops.toList && P.follows .mixedOrders) h
    simp only [Bool.and_eq_true] at h0
    rw [natsK_eq] at h1
    obtain ⟨rows, h1, hrows⟩ := rowsK_t h1
    rw [fN_eq] at h1
    obtain ⟨d, h2, h3⟩ := schK_t (P := P) (n := n) (fun j o cs b ho => Region.noSelect_spec h0.1.1 j o cs b ho) hrows ops.size (fun m om _ hl => by
      have : (Array.replicate ops.size false).getD m false = false := by
        by_cases hlt : m < ops.size
        · simp [hlt]
        · simp [hlt]
      rw [this] at hl; cases hl) Msk.init h1
    exact ⟨_, drw_ok h0.2 h2, h3⟩
  | .seq a b, k, h => by
    obtain ⟨d1, h1, h2⟩ := denK_t a (k := fun a => denK P n b fun b => k (cSeq a b)) h
    obtain ⟨d2, h3, h4⟩ := denK_t b h2
    exact ⟨_, seq_ok h1 h3, h4⟩
  | .cond c a b, k, h => by
    obtain ⟨g, h0, h⟩ := opdK_t (x := c) (k := fun c => denK P n a fun a => denK P n b fun b => k (cCond c a b)) h
    obtain ⟨d1, h1, h2⟩ := denK_t a h
    obtain ⟨d2, h3, h4⟩ := denK_t b h2
    exact ⟨_, cond_ok h0 h1 h3, h4⟩
  | .block id a, k, h => by
    have h : fN id (fun id => denK P n a fun a => k (cBlock id a)) = true := h
    rw [fN_eq] at h
    obtain ⟨d1, h1, h2⟩ := denK_t a h
    exact ⟨_, block_ok h1, h2⟩
  | .loop a, k, h => by
    obtain ⟨d1, h1, h2⟩ := denK_t a (k := fun a => k (cLoop loopMax a)) h
    exact ⟨_, loop_ok h1, h2⟩
  | .rangeFunc f ps ac bd, k, h => by
    obtain ⟨g, h0, h⟩ := opdK_t (x := f) (k := fun f => psK n ps.toList fun ps => denK P n ac fun a => denK P n bd fun b => k (cRf n f ps a b)) h
    obtain ⟨pv, hp, h⟩ := psK_t h
    obtain ⟨d1, h1, h2⟩ := denK_t ac h
    obtain ⟨d2, h3, h4⟩ := denK_t bd h2
    exact ⟨_, by simpa using rf_ok h0 hp h1 h3, h4⟩
  | .exit id, k, h => by
    have h : fN id (fun id => k (cExit id)) = true := h
    rw [fN_eq] at h
    exact ⟨_, exit_ok, h⟩
  | .ret, k, h => ⟨_, ret_ok, h⟩
  | .goto _, k, h => by cases h
  | .scope _, k, h => by cases h
  | .refuse _, k, h => by cases h
/-! ### results -/
structure ResOk (P : Program) (n : Nat) (l : List ResultVar) (r : ResF) : Prop where
  ok : ∀ fr h k, r fr h k = true → ∃ q, k q = true ∧ ∀ E R σ a w, FrOk σ n fr a → HR P E R σ h w → ∃ vs, RelL σ q vs ∧ l.length = vs.length ∧ ∀ (i : Nat) r v, l[i]? = some r → vs[i]? = some v → (resOne a.tmps r).run P w = .ok v w
theorem ResOk.cons {x : ResultVar} {l : List ResultVar} {vs : List Value} {v : Value} {tm : Array Value} {w : World} (h1 : (resOne tm x).run P w = .ok v w) (h2 : ∀ (i : Nat) r v, l[i]? = some r → vs[i]? = some v → (resOne tm r).run P w = .ok v w) :
    ∀ (i : Nat) r u, (x :: l)[i]? = some r → (v :: vs)[i]? = some u → (resOne tm r).run P w = .ok u w := fun i r u hr hu => by
  cases i with
  | zero => simp at hr hu; subst hr hu; exact h1
  | succ i => exact h2 i r u (by simpa using hr) (by simpa using hu)
theorem resK_t : ∀ {l : List ResultVar} {k : ResF → Bool}, resK P n l k = true → ∃ r, ResOk P n l r ∧ k r = true
  | [], k, h => ⟨eNil, ⟨fun fr h k e => ⟨.n, e, fun _ _ _ _ _ _ _ => ⟨[], .nil, rfl, fun i r v hr => by simp at hr⟩⟩⟩, h⟩
  | .tmp t :: l, k, h => by
    obtain ⟨h1, h2⟩ := bi_f (b := Nat.blt t n) h
    rw [posK_eq, gPosK_eq] at h2
    obtain ⟨r, h3, h4⟩ := resK_t h2
    refine ⟨_, ⟨fun fr hp k e => ?_⟩, h4⟩
    have e1 := gPos_t _ e
    obtain ⟨q, e2, h5⟩ := h3.ok fr hp _ e1
    refine ⟨_, e2, fun E R σ a w hf H => ?_⟩
    obtain ⟨vs, h6, h7, h8⟩ := h5 E R σ a w hf H
    exact ⟨_, .cons (hf.get t) h6, by simp [h7], ResOk.cons (by simp [resOne]) h8⟩
  | .cell t ty :: l, k, h => by
    obtain ⟨h1, h2⟩ := bi_f (b := Nat.blt t n) h
    rw [posK_eq, gPosK_eq] at h2
    obtain ⟨r, h3, h4⟩ := resK_t h2
    split at h4
    · rename_i hT
      refine ⟨_, ⟨fun fr hp k e => ?_⟩, h4⟩
      have e1 := gPos_t _ e
      obtain ⟨o, b, d, p, l', r', hv, e2⟩ := onPtr_t e1
      obtain ⟨ct, ce, cq, cl, hct, hat, e3⟩ := hcells_t e2
      obtain ⟨v, hk, hn⟩ := nthK_t e3
      obtain ⟨q, e4, h5⟩ := h3.ok fr hp _ hk
      refine ⟨_, e4, fun E R σ a w hf H => ?_⟩
      obtain ⟨vs, h6, h7, h8⟩ := h5 E R σ a w hf H
      have hr := hf.get t
      rw [hv] at hr
      obtain ⟨bb, c, hx, hs⟩ := hr.c2
      obtain ⟨b1, c1, vl0, junk0, _, hs1, hw0, hrl0, _⟩ := H.cells hct hat
      rw [hs] at hs1; injection hs1 with hs1; injection hs1 with hs1 _
      subst hs1
      obtain ⟨z, hz, hzr⟩ := hn σ vl0 hrl0
      have hlt := (List.getElem?_eq_some_iff.1 hz).1
      refine ⟨z :: vs, .cons hzr h6, by simp [h7], ResOk.cons ?_ h8⟩
      simp only [resOne, hx, asAddr, Sem.run_bind, Sem.run_pure, Result.andThen_ok]
      exact run_load1 (P := P) hT hw0 (by rw [List.getElem?_append_left hlt]; exact hz)
    · rename_i m hT
      refine ⟨_, ⟨fun fr hp k e => ?_⟩, h4⟩
      have e1 := gPos_t _ e
      obtain ⟨o, b, d, p, l', r', hv, e2⟩ := onPtr_t e1
      obtain ⟨ct, ce, cq, cl, hct, hat, e3⟩ := hcells_t e2
      obtain ⟨v, hk, hn⟩ := subK_t e3
      obtain ⟨q, e4, h5⟩ := h3.ok fr hp _ hk
      refine ⟨_, e4, fun E R σ a w hf H => ?_⟩
      obtain ⟨vs, h6, h7, h8⟩ := h5 E R σ a w hf H
      have hr := hf.get t
      rw [hv] at hr
      obtain ⟨bb, c, hx, hs⟩ := hr.c2
      obtain ⟨b1, c1, vl0, junk0, _, hs1, hw0, hrl0, _⟩ := H.cells hct hat
      rw [hs] at hs1; injection hs1 with hs1; injection hs1 with hs1 _
      subst hs1
      obtain ⟨hlen, hzr⟩ := hn σ vl0 hrl0
      have hrl : ((vl0.drop o).take m).length = m := by simp; omega
      refine ⟨.agg ((vl0.drop o).take m).toArray :: vs, .cons (.agg hzr) h6, by simp [h7], ResOk.cons ?_ h8⟩
      simp only [resOne, hx, asAddr, Sem.run_bind, Sem.run_pure, Result.andThen_ok]
      refine run_loadN (P := P) (r := (vl0.drop o).take m) hT hw0 (fun j hj => ?_) hrl
      rw [hrl] at hj
      rw [List.getElem?_append_left (by omega), List.getElem?_take_of_lt hj, List.getElem?_drop]
    · cases h4
theorem oneOf_t {l : V} {k : V → Bool} (h : oneOf l k = true) : ∃ v, k v = true ∧ ∀ σ vs, RelL σ l vs → Rel σ v (resVal vs) := by
  rcases onL_t h with ⟨rfl, h1⟩ | ⟨t, a, b, d, p, v, r, rfl, h1⟩
  · exact ⟨_, h1, fun σ vs hr => by rw [hr.n]; exact .tup (vl := []) .nil⟩
  · rcases onL_t h1 with ⟨rfl, h2⟩ | ⟨_, _, _, _, _, _, _, rfl, h2⟩
    · refine ⟨v, h2, fun σ vs hr => ?_⟩
      obtain ⟨u, ul, rfl, h3, h4⟩ := hr.c
      rw [h4.n]; exact h3
    · refine ⟨_, h2, fun σ vs hr => ?_⟩
      have hr0 := hr
      obtain ⟨u, ul, rfl, h3, h4⟩ := hr.c
      obtain ⟨u2, ul2, rfl, _, _⟩ := h4.c
      exact .tup hr0
/-! ### frames -/
theorem setArgs_t {l : V} : ∀ {i : Nat} {t : T} {k : T → Bool}, setArgs l (posOf i) t k = true → ∃ fr, k fr = true ∧ ∀ σ vals, RelL σ l vals → (∀ m, m < i → fr.at (posOf m) = t.at (posOf m)) ∧ (∀ (j : Nat) u, vals[j]? = some u → Rel σ (fr.at (posOf (i + j))) u) ∧ ∀ m, i + vals.length ≤ m → fr.at (posOf m) = t.at (posOf m) := by
  induction l with
  | n => intro i t k h; exact ⟨t, h, fun σ vals hr => by rw [hr.n]; exact ⟨fun _ _ => rfl, fun j u hj => by simp at hj, fun _ _ => rfl⟩⟩
  | c t0 a b d p v r _ ih =>
    intro i t k h
    have h : T.setK v (posOf i) t (fun t' => (posOf i).succK fun q => setArgs r q t' k) = true := h
    rw [T.setK_eq, Pos.succK_eq, posOf_succ] at h
    obtain ⟨fr, h1, h2⟩ := ih h
    refine ⟨fr, h1, fun σ vals hr => ?_⟩
    obtain ⟨u, ul, rfl, h3, h4⟩ := hr.c
    obtain ⟨h5, h6, h7⟩ := h2 σ ul h4
    have hat : ∀ m, (t.set v (posOf i)).at (posOf m) = if i = m then v else t.at (posOf m) := fun m => by
      rw [T.at_set]
      by_cases hm : i = m
      · subst hm; simp
      · rw [if_neg (posOf_ne hm), if_neg hm]
    refine ⟨fun m hm => ?_, fun j u' hj => ?_, fun m hm => ?_⟩
    · rw [h5 m (by omega), hat, if_neg (by omega)]
    · cases j with
      | zero =>
        simp at hj
        subst hj
        rw [Nat.add_zero, h5 i (by omega), hat, if_pos rfl]
        exact h3
      | succ j =>
        have := h6 j u' (by simpa using hj)
        rwa [show i + 1 + j = i + (j + 1) by omega] at this
    · simp at hm
      rw [h7 m (by omega), hat, if_neg (by omega)]
theorem shutK_t {P : Program} {E : Env} {R : List Blk} {σ : Sg} {cs : List Frame} : ∀ {l : L} {h : Hp} {k : Hp → Bool} {w : World} {ds : List Deferred} {fr : Frame}, shutK l h k = true → MarksOk σ l ds → HR P E R σ h w → fr.mode = .returning → fr.defers = ds →
    ∃ h' w', k h' = true ∧ Step P E R σ h w σ h' w' ∧ Steps P (lone fr cs w) (lone { fr with defers := [] } cs w') := by
  intro l
  induction l with
  | nil =>
    intro h k w ds fr e hm H hmode hd
    cases hm
    refine ⟨h, w, e, .refl H, ?_⟩
    rw [← hd]
    exact Steps.refl _ _
  | cons p l ih =>
    intro h k w ds fr e hm H hmode hd
    have e : (hget h p fun a => onO a fun t _ _ _ => bi (Nat.beq t 5) (hput h p .z fun h' => shutK l h' k) false) = true := e
    obtain ⟨t, et, q, lv, ha, e1⟩ := onO_t (hget_t e)
    obtain ⟨h0, e2⟩ := bi_f e1
    have h0 := beq_t h0
    subst h0
    rw [hput_eq] at e2
    cases hm with
    | cons hs hm =>
      rename_i b c ds
      have hl : Live h p := by unfold Live; rw [ha]; simp
      obtain ⟨b', c', ob, h1, h2, h3⟩ := H.live p hl
      rw [hs] at h1
      injection h1 with h1
      injection h1 with h1 _
      subst h1
      rw [ha] at h3
      have hob : ob = .deferred (some []) := by cases h3; rfl
      subst hob
      have htake := run_takeDeferred (P := P) h2
      have s1 : Step P E R σ h w σ (h.put p .z) (w.putObj b (.deferred none)) := .put H hl hs (World.putObj_heap_same (Array.getElem?_eq_some_iff.1 h2).1) (fun j hj => World.putObj_heap_other hj) rfl (.inl rfl)
      have hstep := step_collected (P := P) (fr := fr) (cs := cs) (by rw [hmode]; exact fun h => by cases h) hd rfl htake
      obtain ⟨h', w', e3, s2, hss⟩ := ih (fr := { fr with defers := [] ++ ds }) e2 hm s1.hr hmode rfl
      exact ⟨h', w', e3, s1.trans s2, .head hstep hss⟩
end
end Go.Rc
namespace Go.Rc
open Go Go.Sym
section
variable {P : Program} {n : Nat}
noncomputable def FT.at : Pos → FT → Option Fn
  | .h, .node _ f _ => some f
  | .o p, .node l _ _ => FT.at p l
  | .o p, .no l _ => FT.at p l
  | .i p, .node _ _ r => FT.at p r
  | .i p, .no _ r => FT.at p r
  | _, _ => none
theorem FT.getK_t : ∀ (p : Pos) {t : FT} {k : Fn → Bool}, FT.getK p t k = true → ∃ f, FT.at p t = some f ∧ k f = true
  | .h, .node _ f _, k, h => ⟨f, rfl, h⟩
  | .h, .nil, k, h => by cases h
  | .h, .no _ _, k, h => by cases h
  | .o p, .node l _ _, k, h => FT.getK_t p (t := l) h
  | .o p, .no l _, k, h => FT.getK_t p (t := l) h
  | .o _, .nil, k, h => by cases h
  | .i p, .node _ _ r, k, h => FT.getK_t p (t := r) h
  | .i p, .no _ r, k, h => FT.getK_t p (t := r) h
  | .i _, .nil, k, h => by cases h
theorem FT.at_nil (p : Pos) : FT.at p .nil = none := by cases p <;> rfl
theorem FT.setK_t (x : Fn) : ∀ (p : Pos) {t : FT} {k : FT → Bool}, FT.setK x p t k = true → ∃ t', k t' = true ∧ ∀ q f, FT.at q t' = some f → (q = p ∧ f = x) ∨ FT.at q t = some f
  | .h, t, k, h => by
    cases t with
    | nil => exact ⟨_, h, fun q f e => by cases q <;> simp [FT.at, FT.at_nil] at e <;> exact .inl ⟨rfl, e.symm⟩⟩
    | no l r => exact ⟨_, h, fun q f e => by cases q <;> simp [FT.at] at e ⊢ <;> first | exact e.symm | exact e⟩
    | node l g r => exact ⟨_, h, fun q f e => by cases q <;> simp [FT.at] at e ⊢ <;> first | exact .inl e.symm | exact e⟩
  | .o p, t, k, h => by
    cases t with
    | nil =>
      obtain ⟨t', h1, h2⟩ := FT.setK_t x p (t := .nil) (k := fun l' => k (.no l' .nil)) h
      refine ⟨_, h1, fun q f e => ?_⟩
      cases q with
      | h => simp [FT.at] at e
      | o q => exact (h2 q f e).imp (fun ⟨h3, h4⟩ => ⟨by rw [h3], h4⟩) fun h3 => by rw [FT.at_nil] at h3; cases h3
      | i q => simp [FT.at, FT.at_nil] at e
    | no l r =>
      obtain ⟨t', h1, h2⟩ := FT.setK_t x p (t := l) (k := fun l' => k (.no l' r)) h
      refine ⟨_, h1, fun q f e => ?_⟩
      cases q with
      | h => simp [FT.at] at e
      | o q => exact (h2 q f e).imp (fun ⟨h3, h4⟩ => ⟨by rw [h3], h4⟩) id
      | i q => exact .inr e
    | node l g r =>
      obtain ⟨t', h1, h2⟩ := FT.setK_t x p (t := l) (k := fun l' => k (.node l' g r)) h
      refine ⟨_, h1, fun q f e => ?_⟩
      cases q with
      | h => exact .inr e
      | o q => exact (h2 q f e).imp (fun ⟨h3, h4⟩ => ⟨by rw [h3], h4⟩) id
      | i q => exact .inr e
  | .i p, t, k, h => by
    cases t with
    | nil =>
      obtain ⟨t', h1, h2⟩ := FT.setK_t x p (t := .nil) (k := fun r' => k (.no .nil r')) h
      refine ⟨_, h1, fun q f e => ?_⟩
      cases q with
      | h => simp [FT.at] at e
      | i q => exact (h2 q f e).imp (fun ⟨h3, h4⟩ => ⟨by rw [h3], h4⟩) fun h3 => by rw [FT.at_nil] at h3; cases h3
      | o q => simp [FT.at, FT.at_nil] at e
    | no l r =>
      obtain ⟨t', h1, h2⟩ := FT.setK_t x p (t := r) (k := fun r' => k (.no l r')) h
      refine ⟨_, h1, fun q f e => ?_⟩
      cases q with
      | h => simp [FT.at] at e
      | i q => exact (h2 q f e).imp (fun ⟨h3, h4⟩ => ⟨by rw [h3], h4⟩) id
      | o q => exact .inr e
    | node l g r =>
      obtain ⟨t', h1, h2⟩ := FT.setK_t x p (t := r) (k := fun r' => k (.node l g r')) h
      refine ⟨_, h1, fun q f e => ?_⟩
      cases q with
      | h => exact .inr e
      | i q => exact (h2 q f e).imp (fun ⟨h3, h4⟩ => ⟨by rw [h3], h4⟩) id
      | o q => exact .inr e
/-- what a compiled function must be -/
structure FnOk (P : Program) (gi : Nat) (f : Fn) : Prop where
  ex : ∃ (fn : Func) (c : Code), P.funcs[gi]? = some fn ∧ fn.body = some c ∧ (fn.name == "runtime.NumGoroutine") = false ∧ f.n = fn.ntmps ∧ fn.results.toList.length ≤ 3 ∧ ResOk P fn.ntmps fn.results.toList f.res ∧ DenOk P fn.ntmps c f.body
def FtOk (P : Program) (t : FT) : Prop := ∀ p f, FT.at p t = some f → ∃ gi, p = posOf gi ∧ FnOk P gi f
theorem fnK_t {g : Nat} {k : Fn → Bool} (h : fnK P g k = true) : ∃ f, FnOk P g f ∧ k f = true := by
  unfold fnK at h
  split at h
  · cases h
  · rename_i fn hfn
    split at h
    · cases h
    · rename_i c hc
      obtain ⟨h0, h1⟩ := bi_g h
      obtain ⟨h2, h3⟩ := bi_f h1
      obtain ⟨r, h4, h5⟩ := resK_t h3
      obtain ⟨d, h6, h7⟩ := denK_t c h5
      exact ⟨_, ⟨fn, c, hfn, hc, h0, rfl, ble_t h2, h4, h6⟩, h7⟩
theorem tabK_t : ∀ {l : List Nat} {t : FT} {k : FT → Bool}, FtOk P t → tabK P l t k = true → ∃ t', FtOk P t' ∧ k t' = true
  | [], t, k, ht, h => ⟨t, ht, h⟩
  | g :: l, t, k, ht, h => by
    obtain ⟨f, h1, h2⟩ := fnK_t (k := fun f => posK g fun p => FT.setK f p t fun t' => tabK P l t' k) h
    rw [posK_eq] at h2
    obtain ⟨t', h3, h4⟩ := FT.setK_t f _ h2
    refine tabK_t (fun p f' hp => ?_) h3
    rcases h4 p f' hp with ⟨h5, h6⟩ | h5
    · exact ⟨g, h5, h6 ▸ h1⟩
    · exact ht p f' h5
theorem run_enterF {gi : Nat} {fn : Func} {c : Code} (hf : P.funcs[gi]? = some fn) (hb : fn.body = some c) (hn : (fn.name == "runtime.NumGoroutine") = false) (args : Array Value) (w : World) : (callFunc gi args).run P w = .ok (.enter gi args) w := by
  unfold callFunc
  rw [Sem.run_bind, show (program : Sem Program).run P w = .ok P w from rfl, Result.andThen_ok]
  simp only [hf, hn, hb]
  rfl
/-- what is asked of calls that are not carried out -/
def OrcOk (P : Program) (orc : Orc) : Prop := ∀ g args h k d, orc g args h k d = true → d = true ∨ ∃ gi, g = posOf gi ∧ (∀ args w, (callFunc gi args).run P w = .ok (.enter gi args) w) ∧
  ∀ E R σ w vals, HR P E R σ h w → RelL σ args vals → Calls P gi vals.toArray w fun e w' => ∃ x, e = .returned x ∧ Good P E R σ h w k x w'
theorem noOrc_ok : OrcOk P noOrc := fun _ _ _ _ _ h => .inl h
theorem cf_ok {orc : Orc} (horc : OrcOk P orc) {fns : FT} (ht : FtOk P fns) : ∀ N, CfOk P (cfN orc fns N)
  | 0 => fun _ _ _ _ _ _ _ _ _ _ e => by cases e
  | N + 1 => fun rb g args h k E R σ w vals e hrb H hargs => by
    have e : orc g args h k (FT.getK g fns fun f => callB f (cfN orc fns N) rb args h k) = true := e
    rcases horc _ _ _ _ _ e with e | ⟨gi, rfl, hrun, hcall⟩
    case inr => exact ⟨gi, rfl, hrun, hcall E R σ w vals H hargs⟩
    obtain ⟨f, hat, e1⟩ := FT.getK_t g e
    obtain ⟨gi, rfl, fn, c, hfn, hc, hname, hn, hlen3, hres, hden⟩ := ht g f hat
    refine ⟨gi, rfl, fun args w => run_enterF hfn hc hname args w, fun cs => ?_⟩
    obtain ⟨n0, res, body⟩ := f
    simp only at hn hres hden
    subst hn
    have e1 : (lenK args 0 fun m => bi (Nat.ble m fn.ntmps) (setArgs args .h .nil fun fr => body (cfN orc fns N) rb fr h ⟨.nil, .nil⟩ fun e fr' h' x' => bi (Nat.ble e 1) (@X.rec (fun _ => Bool) (fun df _ => shutK df h' fun h'' => res fr' h'' fun l => oneOf l fun v => k v h'') x') false) false) = true := e1
    obtain ⟨m, e2, hm⟩ := lenK_t e1
    obtain ⟨h0, e3⟩ := bi_f e2
    have h0 : m ≤ fn.ntmps := ble_t h0
    obtain ⟨fr, e4, hset⟩ := setArgs_t (i := 0) e3
    have hml : m = vals.length := by simpa using hm σ vals hargs
    obtain ⟨_, hs1, hs2⟩ := hset σ vals hargs
    let a0 : Act := { tmps := vals.toArray ++ Array.replicate (fn.ntmps - vals.toArray.size) undef, defers := [] }
    have hfr : FrOk σ fn.ntmps fr a0 := by
      refine ⟨by simp [a0]; omega, fun t => ?_⟩
      by_cases hlt : t < vals.length
      · have := hs1 t vals[t] (by simp [hlt])
        rw [Nat.zero_add] at this
        have e5 : a0.tmps.getD t undef = vals[t] := by simp [a0, Array.getElem?_append, hlt]
        rw [e5]; exact this
      · rw [hs2 t (by omega), T.at_nil]; exact .any
    let b : Frame := { (default : Frame) with fn := gi, kind := .normal, roundOf := none }
    have henter : Frame.enter P gi vals.toArray .normal = b.atR a0 [.code c] := by
      simp [Frame.enter, Frame.atR, hfn, hc, b, a0]
    obtain ⟨en, fr', h', x', σ', a', w', q1, q2, q3, q4, q5⟩ := hden.ok _ rb fr h ⟨.nil, .nil⟩ _ E R σ a0 w b [] cs (cf_ok horc ht N) hrb e4 hfr H ⟨.nil, .inl ⟨rfl, rfl⟩⟩ rfl
    obtain ⟨h1, e5⟩ := bi_f q1
    have h1 : en ≤ 1 := ble_t h1
    obtain ⟨df, rd⟩ := x'
    have e5 : shutK df h' (fun h'' => res fr' h'' fun l => oneOf l fun v => k v h'') = true := e5
    have hret : ∃ k2, Steps P (lone (Frame.enter P gi vals.toArray .normal) cs w) (lone { b.atR a' k2 with mode := .returning } cs w') := by
      rw [henter]
      match en, q5, h1 with
      | 0, q5, _ => exact ⟨[], Steps.trans q5 (.one (stepR_end rfl))⟩
      | 1, ⟨k2, q5⟩, _ => exact ⟨_, Steps.trans q5 (.one (stepR_ret rfl))⟩
      | _ + 2, _, h1 => exact absurd h1 (by omega)
    obtain ⟨k2, hret⟩ := hret
    obtain ⟨h'', w'', e6, s2, hshut⟩ := shutK_t (P := P) (cs := cs) (fr := { b.atR a' k2 with mode := .returning }) e5 q4.df q3.hr rfl rfl
    obtain ⟨q, e7, hq⟩ := hres.ok fr' h'' _ e6
    obtain ⟨v, e8, hv⟩ := oneOf_t e7
    obtain ⟨vs, hvs, hl, hrun⟩ := hq E R σ' a' w'' q2 s2.hr
    refine ⟨.returned (resVal vs), w'', { b.atR a' k2 with mode := .returning, defers := [] }, ⟨_, rfl, v, σ', h'', e8, hv σ' vs hvs, q3.trans s2⟩, Steps.trans hret hshut, rfl, rfl, rfl, rfl, fn, hfn, ?_⟩
    exact run_results (by simp) hlen3 hl hrun
/-- all blocks of a world -/
def allB (w : World) : List Blk := (List.range w.heap.size).filterMap fun i => (w.heap[i]?).map fun o => (i, o)
theorem mem_allB {w : World} {x : Blk} : x ∈ allB w ↔ w.heap[x.1]? = some x.2 := by
  unfold allB
  rw [List.mem_filterMap]
  constructor
  · rintro ⟨i, _, h⟩
    cases ho : w.heap[i]? with
    | none => rw [ho] at h; cases h
    | some o => rw [ho] at h; simp at h; subst h; exact ho
  · intro h
    refine ⟨x.1, List.mem_range.2 (Array.getElem?_eq_some_iff.1 h).1, ?_⟩
    rw [h]; rfl
theorem fin_ok2 {orc : Orc} (horc : OrcOk P orc) {fns : FT} (ht : FtOk P fns) {N g : Nat} {args : V} {vals : List Value} (e1 : (cfN orc fns N noRb (posOf g) args ⟨.nil, .h, .nil⟩ fun v _ => onBool v true false) = true) (hargs : RelL (fun _ => none) args vals) (w : World) :
    Calls P g vals.toArray w fun e w' => e = .returned (.bool true) ∧ Grew w w' := by
  have H : HR P (w.os, w.output) (allB w) (fun _ => none) ⟨.nil, .h, .nil⟩ w := by
    refine ⟨rfl, fun p hl => ?_, fun p q b c c' hl => ?_, fun x hx => ⟨mem_allB.1 hx, fun p c hl => ?_⟩, fun p x e => (by cases e)⟩
    · exact absurd (HT.at_nil p) hl
    · exact absurd (HT.at_nil p) hl
    · exact absurd (HT.at_nil p) hl
  obtain ⟨gi, hp, _, hcall⟩ := cf_ok horc ht N noRb (posOf g) args _ _ _ _ _ w vals e1 (RbOk.no P _) H hargs
  obtain rfl := posOf_inj hp
  refine hcall.mono fun e w' ⟨x, he, v, σ', h', e2, hr, s⟩ => ?_
  refine ⟨?_, ?_⟩
  · obtain ⟨y, b2, d, p, l, r, rfl, h3⟩ := onBool_t e2
    obtain ⟨u, rfl, hu⟩ := hr.c0
    rcases h3 with ⟨h3, _⟩ | ⟨_, h3⟩
    · subst h3
      rw [he]
      cases u
      · cases hu
      · rfl
    · cases h3
  · exact ⟨s.hr.env, fun i o ho => (s.hr.frame (i, o) (mem_allB.2 ho)).1⟩
theorem chk_ok2 {orc : Orc} (horc : OrcOk P orc) {gs : List Nat} {N g : Nat} {args : V} {vals : List Value} (h : chk P orc gs N g args = true) (hargs : RelL (fun _ => none) args vals) (w : World) :
    Calls P g vals.toArray w fun e w' => e = .returned (.bool true) ∧ Grew w w' := by
  obtain ⟨fns, ht, e1⟩ := tabK_t (P := P) (t := .nil) (fun p f hp => by rw [FT.at_nil] at hp; cases hp) h
  rw [posK_eq] at e1
  exact fin_ok2 horc ht e1 hargs w
/-! ### a call without arguments that answers true -/
end
end Go.Rc
namespace Go.Proofs.Ytfkpjnomfmjplaa.sane
open Go Go.Rc Go.Proofs
noncomputable def gs : List Nat := [9, 10, 11, 13, 15, 17, 18, 20, 28, 38, 39, 40, 41, 42, 43, 44, 45, 46, 48, 49, 50, 51, 54, 62, 64, 65, 66, 69, 70, 71, 72, 75, 80]
theorem run : chk Try.prog noOrc gs 1000 9 .n = true := by kernel_rfl
end Go.Proofs.Ytfkpjnomfmjplaa.sane
