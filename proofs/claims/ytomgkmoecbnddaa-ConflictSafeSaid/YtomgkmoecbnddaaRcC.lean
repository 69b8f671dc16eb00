/- RcC: when a value of the interpreter stands for one of the model; when a frame does, and a heap. -/
import Derived.Test.YtomgkmoecbnddaaRcB
set_option linter.unusedVariables false
set_option linter.unusedSimpArgs false
set_option linter.unnecessarySimpa false
namespace Go.Rc
open Go Go.Sym

/-- of an open block: for how many elements it has room; of a loop: its code -/
inductive Gh where
  | c (n : Nat)
  | lp (n : Nat) (ac bd : Code)
  | it (es : Array MapEntry) (clock : Nat)
  | ent (born : Nat) (key : Value)
/-- where the named blocks lie -/
abbrev Sg := Pos → Option (Nat × Gh)
def strNum : List UInt8 → Nat
  | [] => 0
  | b :: l => b.toNat + 256 * strNum l
mutual
inductive Rel (σ : Sg) : V → Value → Prop
  | any {x} : Rel σ .n x
  | bool {a b d p l r} {x : Bool} (h : a = cond x 1 0) : Rel σ (.c 0 a b d p l r) (.bool x)
  | int {a b d p l r} {q : IntKind} {z : Int} (hq : b = kc q) (ha : a < kmod q) (hz : z = q.wrap a) : Rel σ (.c 1 a b d p l r) (.int q z)
  | ptr {a b d p l r bb c} (h : σ p = some (bb, c)) : Rel σ (.c 2 a b d p l r) (.pointer (some ⟨bb, a, none⟩))
  | nilp {b d p l r} : Rel σ (.c 3 0 b d p l r) (.pointer none)
  | nils {b d p l r} : Rel σ (.c 3 1 b d p l r) (.slice none 0 0)
  | nilm {b d p l r} : Rel σ (.c 3 2 b d p l r) (.map none)
  | nilf {b d p l r} : Rel σ (.c 3 3 b d p l r) .nilFunc
  | nili {b d p l r} : Rel σ (.c 3 4 b d p l r) .nilIface
  | sl {a b d p l r bb c cap} (h : σ p = some (bb, c)) (hl : b ≤ cap) (hc : d = cap + 1 ∨ (d = 0 ∧ (a = 0 → c = .c cap))) : Rel σ (.c 4 a b d p l r) (.slice (some ⟨bb, a, none⟩) b cap)
  | map {a b d p l r bb c} (h : σ p = some (bb, c)) : Rel σ (.c 5 a b d p l r) (.map (some bb))
  | str {a b d p l r} {s : ByteArray} (ha : a = strNum s.data.toList) (hb : b = s.size) : Rel σ (.c 6 a b d p l r) (.string s)
  | fn {a b d p l r} {g : Nat} {fl cl : List Value} (hp : p = posOf g) (h1 : RelL σ l fl) (h2 : RelL σ r cl) : Rel σ (.c 7 a b d p l r) (.func (.func g) fl.toArray cl.toArray)
  | yl {a b d p l r bb c} (h : σ p = some (bb, c)) : Rel σ (.c 8 a b d p l r) (.func (.yield bb) #[] #[])
  | ifc {a b d p l r} {u : Value} (h : Rel σ l u) : Rel σ (.c 11 a b d p l r) (.iface a u)
  | agg {a b d p l r} {vl : List Value} (h : RelL σ l vl) : Rel σ (.c 12 a b d p l r) (.agg vl.toArray)
  | tup {a b d p l r} {vl : List Value} (h : RelL σ l vl) : Rel σ (.c 14 a b d p l r) (.tuple vl.toArray)
  | res {a b d : Nat} {p l r} {z : Int} (h : z % (a : Int) = (b : Int)) : Rel σ (.c 16 a b d p l r) (.int .i64 z)
  | stamp {a b d p l r bb n K} (h : σ p = some (bb, .ent n K)) (hk : Rel σ l K) : Rel σ (.c 21 a b d p l r) (.int .i64 (n : Int))
  | r64 {m r B p l r'} {a : Nat} (h1 : a % m = r) (h2 : a < B) (h3 : B ≤ 4294967296) : Rel σ (.c 19 m r B p l r') (.int .i64 a)
  | r8 {m r B p l r'} {a : Nat} (h1 : a % m = r) (h2 : a < B) (h3 : B ≤ 256) : Rel σ (.c 20 m r B p l r') (.int .u8 a)
  | one {a b d p l r} {x : Value} (h : x.cells = #[x]) (h1 : x.oneCell' = true) : Rel σ (.c 18 a b d p l r) x
inductive RelL (σ : Sg) : V → List Value → Prop
  | nil : RelL σ .n []
  | cons {t a b d p l r u vl} (h : Rel σ l u) (h2 : RelL σ r vl) : RelL σ (.c t a b d p l r) (u :: vl)
end
section
variable {σ τ : Sg} {a b d t : Nat} {p : Pos} {l r v : V} {x : Value}
def Ext (σ τ : Sg) : Prop := ∀ p x, σ p = some x → τ p = some x
theorem Ext.refl (σ : Sg) : Ext σ σ := fun _ _ h => h
theorem Ext.trans {σ τ υ : Sg} (h : Ext σ τ) (h' : Ext τ υ) : Ext σ υ := fun p x e => h' p x (h p x e)
theorem Rel.c0 (h : Rel σ (.c 0 a b d p l r) x) : ∃ y : Bool, x = .bool y ∧ a = cond y 1 0 := by cases h with | bool h => exact ⟨_, rfl, h⟩
theorem Rel.c1 (h : Rel σ (.c 1 a b d p l r) x) : ∃ q : IntKind, x = .int q (q.wrap a) ∧ b = kc q ∧ a < kmod q := by
  cases h with
  | int hq ha hz => exact ⟨_, by rw [hz], hq, ha⟩
theorem Rel.c2 (h : Rel σ (.c 2 a b d p l r) x) : ∃ bb c, x = .pointer (some ⟨bb, a, none⟩) ∧ σ p = some (bb, c) := by
  cases h with
  | ptr h => exact ⟨_, _, rfl, h⟩
theorem Rel.c3 (h : Rel σ (.c 3 a b d p l r) x) : (a = 0 ∧ x = .pointer none) ∨ (a = 1 ∧ x = .slice none 0 0) ∨ (a = 2 ∧ x = .map none) ∨ (a = 3 ∧ x = .nilFunc) ∨ (a = 4 ∧ x = .nilIface) := by
  cases h <;> simp
theorem Rel.c4 (h : Rel σ (.c 4 a b d p l r) x) : ∃ bb c cap, x = .slice (some ⟨bb, a, none⟩) b cap ∧ σ p = some (bb, c) ∧ b ≤ cap ∧ (d = cap + 1 ∨ (d = 0 ∧ (a = 0 → c = .c cap))) := by
  cases h with
  | sl h hl hc => exact ⟨_, _, _, rfl, h, hl, hc⟩
theorem Rel.c5 (h : Rel σ (.c 5 a b d p l r) x) : ∃ bb c, x = .map (some bb) ∧ σ p = some (bb, c) := by
  cases h with
  | map h => exact ⟨_, _, rfl, h⟩
theorem Rel.c6 (h : Rel σ (.c 6 a b d p l r) x) : ∃ s : ByteArray, x = .string s ∧ a = strNum s.data.toList ∧ b = s.size := by
  cases h with
  | str ha hb => exact ⟨_, rfl, ha, hb⟩
theorem Rel.c7 (h : Rel σ (.c 7 a b d p l r) x) : ∃ (g : Nat) (fl cl : List Value), x = .func (.func g) fl.toArray cl.toArray ∧ p = posOf g ∧ RelL σ l fl ∧ RelL σ r cl := by
  cases h with
  | fn hp h1 h2 => exact ⟨_, _, _, rfl, hp, h1, h2⟩
theorem Rel.c8 (h : Rel σ (.c 8 a b d p l r) x) : ∃ bb c, x = .func (.yield bb) #[] #[] ∧ σ p = some (bb, c) := by
  cases h with
  | yl h => exact ⟨_, _, rfl, h⟩
theorem Rel.c11 (h : Rel σ (.c 11 a b d p l r) x) : ∃ u, x = .iface a u ∧ Rel σ l u := by
  cases h with
  | ifc h => exact ⟨_, rfl, h⟩
theorem Rel.c12 (h : Rel σ (.c 12 a b d p l r) x) : ∃ vl : List Value, x = .agg vl.toArray ∧ RelL σ l vl := by
  cases h with
  | agg h => exact ⟨_, rfl, h⟩
theorem Rel.c14 (h : Rel σ (.c 14 a b d p l r) x) : ∃ vl : List Value, x = .tuple vl.toArray ∧ RelL σ l vl := by
  cases h with
  | tup h => exact ⟨_, rfl, h⟩
theorem Rel.c16 (h : Rel σ (.c 16 a b d p l r) x) : ∃ z : Int, x = .int .i64 z ∧ z % (a : Int) = (b : Int) := by
  cases h with
  | res h => exact ⟨_, rfl, h⟩
theorem RelL.n {vl : List Value} (h : RelL σ .n vl) : vl = [] := by cases h; rfl
theorem RelL.c {vl : List Value} (h : RelL σ (.c t a b d p l r) vl) : ∃ u ul, vl = u :: ul ∧ Rel σ l u ∧ RelL σ r ul := by
  cases h with
  | cons h h2 => exact ⟨_, _, rfl, h, h2⟩
mutual
theorem Rel.mono (hs : Ext σ τ) : ∀ {v : V} {x : Value}, Rel σ v x → Rel τ v x
  | _, _, .any => .any
  | _, _, .bool h => .bool h
  | _, _, .int hq ha hz => .int hq ha hz
  | _, _, .ptr h => .ptr (hs _ _ h)
  | _, _, .nilp => .nilp
  | _, _, .nils => .nils
  | _, _, .nilm => .nilm
  | _, _, .nilf => .nilf
  | _, _, .nili => .nili
  | _, _, .sl h hl hc => .sl (hs _ _ h) hl hc
  | _, _, .map h => .map (hs _ _ h)
  | _, _, .str ha hb => .str ha hb
  | _, _, .fn hp h1 h2 => .fn hp (RelL.mono hs h1) (RelL.mono hs h2)
  | _, _, .yl h => .yl (hs _ _ h)
  | _, _, .ifc h => .ifc (Rel.mono hs h)
  | _, _, .agg h => .agg (RelL.mono hs h)
  | _, _, .tup h => .tup (RelL.mono hs h)
  | _, _, .res h => .res h
  | _, _, .stamp h hk => .stamp (hs _ _ h) (Rel.mono hs hk)
  | _, _, .r64 h1 h2 h3 => .r64 h1 h2 h3
  | _, _, .r8 h1 h2 h3 => .r8 h1 h2 h3
  | _, _, .one h h1 => .one h h1
theorem RelL.mono (hs : Ext σ τ) : ∀ {v : V} {x : List Value}, RelL σ v x → RelL τ v x
  | _, _, .nil => .nil
  | _, _, .cons h h2 => .cons (Rel.mono hs h) (RelL.mono hs h2)
end
theorem Rel.tt (σ : Sg) : Rel σ vT (.bool true) := .bool rfl
theorem Rel.ff (σ : Sg) : Rel σ vF (.bool false) := .bool rfl
theorem Rel.undef (σ : Sg) : Rel σ vUndef Go.undef := .tup (vl := []) .nil
end

/-! ### frames -/
structure FrOk (σ : Sg) (n : Nat) (fr : T) (a : Act) : Prop where
  size : a.tmps.size = n
  get : ∀ t, Rel σ (fr.at (posOf t)) (a.tmps.getD t undef)
theorem FrOk.mono {σ τ : Sg} {n : Nat} {fr : T} {a : Act} (h : FrOk σ n fr a) (hs : Ext σ τ) : FrOk τ n fr a := ⟨h.size, fun t => (h.get t).mono hs⟩
theorem FrOk.put {σ : Sg} {n d : Nat} {fr : T} {a : Act} {v : V} {x : Value} (h : FrOk σ n fr a) (hd : d < n) (hv : Rel σ v x) : FrOk σ n (fr.set v (posOf d)) (a.put (some d) x) := by
  refine ⟨by simp [Act.put, h.size], fun t => ?_⟩
  rw [T.at_set]
  by_cases ht : posOf d = posOf t
  · rw [if_pos ht]
    obtain rfl := posOf_inj ht
    simpa [Act.put, h.size, hd] using hv
  · rw [if_neg ht]
    have hne : d ≠ t := fun e => ht (by rw [e])
    have := h.get t
    simpa [Act.put, Array.getElem?_setIfInBounds_ne hne] using this
theorem FrOk.defers {σ : Sg} {n : Nat} {fr : T} {a : Act} (h : FrOk σ n fr a) (ds : List Deferred) : FrOk σ n fr { a with defers := ds } := ⟨h.size, h.get⟩

/-! ### heaps -/
/-- entries of a map with keys of kind e -/
inductive RelM (σ : Sg) (q : IntKind) : V → List (Int × Value) → Prop
  | nil : RelM σ q .n []
  | cons {a b d p kv v r z x l t' a' b' d' p'} (hb : b = kc q) (ha : a < kmod q) (hz : z = q.wrap a) (hk : Rel σ kv (.int q z)) (hv : Rel σ v x) (h : RelM σ q r l) : RelM σ q (.c 13 a b d p (.c t' a' b' d' p' kv v) r) ((z, x) :: l)
inductive RelMS (σ : Sg) : V → List (ByteArray × Value) → Prop
  | nil : RelMS σ .n []
  | cons {a b d p kv v r s x l t' a' b' d' p'} (ha : a = strNum s.data.toList) (hb : b = s.size) (hk : Rel σ kv (.string s)) (hv : Rel σ v x) (h : RelMS σ r l) : RelMS σ (.c 13 a b d p (.c t' a' b' d' p' kv v) r) ((s, x) :: l)
theorem RelM.mono {σ τ : Sg} {q : IntKind} {v : V} {l : List (Int × Value)} (h : RelM σ q v l) (hs : Ext σ τ) : RelM τ q v l := by
  induction h with
  | nil => exact .nil
  | cons hb ha hz hk hv _ ih => exact .cons hb ha hz (hk.mono hs) (hv.mono hs) ih
theorem RelMS.mono {σ τ : Sg} {v : V} {l : List (ByteArray × Value)} (h : RelMS σ v l) (hs : Ext σ τ) : RelMS τ v l := by
  induction h with
  | nil => exact .nil
  | cons ha hb hk hv _ ih => exact .cons ha hb (hk.mono hs) (hv.mono hs) ih
/-- the visited keys of an iterator -/
inductive RelVis (q : IntKind) : V → List Int → Prop
  | nil : RelVis q .n []
  | cons {a b d p e r z l} (hb : b = kc q) (ha : a < kmod q) (hz : z = q.wrap a) (h : RelVis q r l) : RelVis q (.c 13 a b d p e r) (z :: l)
def lstOf (s : Nat) : LoopState × Option Code := match s with
  | 0 => (.ready, none)
  | 1 => (.busy, none)
  | 2 => (.exhausted, none)
  | 3 => (.done, some .ret)
  | n + 4 => (.done, some (.exit n))
inductive PsOk (n : Nat) : V → List Nat → Prop
  | nil : PsOk n .n []
  | cons {t a b d l r q qs} (hq : q < n) (h : PsOk n r qs) : PsOk n (.c t a b d (posOf q) l r) (q :: qs)
/-- a mark: none, or that of an iterator over these entries -/
def MkOk (σ : Sg) (p : Pos) (es : Array MapEntry) (clock : Nat) : Prop := p = .h ∨ (∃ q b, p = .o q ∧ σ q = some (b, .it es clock)) ∨ ∃ q b n K, p = .i q ∧ σ q = some (b, .ent n K) ∧ ∃ e ∈ es.toList, e.born = n ∧ e.key = K
theorem MkOk.mono {σ τ : Sg} {p : Pos} {es : Array MapEntry} {clock : Nat} (h : MkOk σ p es clock) (hs : Ext σ τ) : MkOk τ p es clock := h.imp id (Or.imp (fun ⟨q, b, h1, h2⟩ => ⟨q, b, h1, hs _ _ h2⟩) fun ⟨q, b, n, K, h1, h2, h3⟩ => ⟨q, b, n, K, h1, hs _ _ h2, h3⟩)
/-- the entry that came last -/
def CurOk (σ : Sg) (vis : V) (es : Array MapEntry) (seen : Array Nat) : Prop := ∀ t a b d p t' a' b' d' p' kv v r, vis = .c t a b d p (.c t' a' b' d' p' kv v) r → ∃ x y, Rel σ kv x ∧ Rel σ v y ∧ Cur es seen x y
theorem CurOk.mono {σ τ : Sg} {vis : V} {es : Array MapEntry} {seen : Array Nat} (h : CurOk σ vis es seen) (hs : Ext σ τ) : CurOk τ vis es seen := fun t a b d p t' a' b' d' p' kv v r e => by
  obtain ⟨x, y, h1, h2, h3⟩ := h t a b d p t' a' b' d' p' kv v r e
  exact ⟨x, y, h1.mono hs, h2.mono hs, h3⟩
/-- what a named block stands for: at the address b, with room for c elements -/
inductive OOk (P : Program) (σ : Sg) : Gh → AO → Obj → Prop
  | cells {c e q l vl} (h : RelL σ l vl) : OOk P σ c (.o 1 e q l) (.cells vl.toArray e (0, 0))
  | opn {c e q l vl ag s} {junk : List Value} (h : RelL σ l vl) (hT : tyOf P e = some (ag, s)) (hl : (vl ++ junk).length = c * s) : OOk P σ (.c c) (.o 2 e q l) (.cells (vl ++ junk).toArray e (0, 0))
  | mapI {c e p l es clock} {q : IntKind} {ml : List (Int × Value)} (he : e = kc q) (hM : MapOf (Value.int q) ml es clock) (h : RelM σ q l ml) (hk : MkOk σ p es clock) : OOk P σ c (.o 3 e p l) (.map es clock)
  | mapS {c e p l es clock} {ml : List (ByteArray × Value)} (he : e = 8) (hM : MapOf Value.string ml es clock) (h : RelMS σ l ml) (hk : MkOk σ p es clock) : OOk P σ c (.o 3 e p l) (.map es clock)
  | iter {e m vis es clock mb gm seen visl} {q : IntKind} (he : e = kc q) (hs : σ m = some (mb, gm)) (hI : Iter (Value.int q) es clock seen visl) (hv : RelVis q vis visl) (hc : CurOk σ vis es seen) : OOk P σ (.it es clock) (.o 4 e m vis) (.mapIter (some mb) clock seen clock)
  | mark {c e p l} : OOk P σ c (.o 5 e p l) (.deferred (some []))
  | lp {s n tm ps ac bd d db dc fn} {tmps : Array Value} {pl : List Nat} (hf : FrOk σ n tm { tmps := tmps, defers := [] }) (hp : PsOk n ps pl) (hd : σ d = some (db, dc)) :
      OOk P σ (.lp n ac bd) (.lp s n tm ps d) (.loop { state := (lstOf s).1, pending := (lstOf s).2, fn := fn, tmps := tmps, params := pl.toArray, assign := ac, body := bd, defers := db })
theorem OOk.remark {P : Program} {σ : Sg} {gh : Gh} {ke : Nat} {p p' : Pos} {l : V} {es : Array MapEntry} {clock : Nat} (h : OOk P σ gh (.o 3 ke p l) (.map es clock)) (hk : MkOk σ p' es clock) : OOk P σ gh (.o 3 ke p' l) (.map es clock) := by
  cases h with
  | mapI he hM h _ => exact .mapI he hM h hk
  | mapS he hM h _ => exact .mapS he hM h hk
theorem OOk.mono {P : Program} {σ τ : Sg} {c : Gh} {a : AO} {o : Obj} (h : OOk P σ c a o) (hs : Ext σ τ) : OOk P τ c a o := by
  cases h with
  | cells h => exact .cells (h.mono hs)
  | opn h hT hl => exact .opn (h.mono hs) hT hl
  | mapI he hM h hk => exact .mapI he hM (h.mono hs) (hk.mono hs)
  | mapS he hM h hk => exact .mapS he hM (h.mono hs) (hk.mono hs)
  | iter he h1 hI hv hc => exact .iter he (hs _ _ h1) hI hv (hc.mono hs)
  | mark => exact .mark
  | lp hf hp hd => exact .lp (hf.mono hs) hp (hs _ _ hd)
def Live (h : Hp) (p : Pos) : Prop := h.t.at p ≠ .z
structure HR (P : Program) (E : Env) (R : List Blk) (σ : Sg) (h : Hp) (w : World) : Prop where
  env : (w.os, w.output) = E
  live : ∀ p, Live h p → ∃ b c ob, σ p = some (b, c) ∧ w.heap[b]? = some ob ∧ OOk P σ c (h.t.at p) ob
  inj : ∀ p q b c c', Live h p → Live h q → σ p = some (b, c) → σ q = some (b, c') → p = q
  frame : ∀ x ∈ R, w.heap[x.1]? = some x.2 ∧ ∀ p c, Live h p → σ p ≠ some (x.1, c)
  fresh : ∀ p x, σ p = some x → p.num < h.nx.num
end Go.Rc
