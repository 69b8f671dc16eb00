/- RcD: lists of cells; steps of the heap. -/
import Derived.Test.YtomgkmoecbnddaaRcC
set_option linter.unusedVariables false
set_option linter.unusedSimpArgs false
set_option linter.unnecessarySimpa false
namespace Go.Rc
open Go Go.Sym

theorem nthK_t {l : V} : ∀ {n : Nat} {k : V → Bool}, nthK l n k = true → ∃ v, k v = true ∧ ∀ σ vl, RelL σ l vl → ∃ x, vl[n]? = some x ∧ Rel σ v x := by
  induction l with
  | n => intro n k h; cases h
  | c t a b d p v r _ ih =>
    intro n k h
    cases n with
    | zero =>
      refine ⟨v, h, fun σ vl hr => ?_⟩
      obtain ⟨u, ul, rfl, h1, h2⟩ := hr.c
      exact ⟨u, rfl, h1⟩
    | succ n =>
      obtain ⟨w, hk, hw⟩ := ih (n := n) (k := k) h
      refine ⟨w, hk, fun σ vl hr => ?_⟩
      obtain ⟨u, ul, rfl, h1, h2⟩ := hr.c
      obtain ⟨x, hx, hx2⟩ := hw σ ul h2
      exact ⟨x, by simpa using hx, hx2⟩
theorem subK_t {l : V} : ∀ {o m : Nat} {k : V → Bool}, subK l o m k = true → ∃ q, k q = true ∧ ∀ σ vl, RelL σ l vl → o + m ≤ vl.length ∧ RelL σ q ((vl.drop o).take m) := by
  induction l with
  | n =>
    intro o m k h
    cases o with
    | succ o => cases h
    | zero => cases m with
      | succ m => cases h
      | zero => exact ⟨.n, h, fun σ vl hr => by rw [hr.n]; exact ⟨Nat.le_refl _, .nil⟩⟩
  | c t a b d p v r _ ih =>
    intro o m k h
    cases o with
    | zero =>
      cases m with
      | zero => exact ⟨.n, h, fun σ vl hr => ⟨by simp, by simpa using RelL.nil⟩⟩
      | succ m =>
        obtain ⟨q, hk, hq⟩ := ih (o := 0) (m := m) (k := fun q => k (vCons v q)) h
        refine ⟨vCons v q, hk, fun σ vl hr => ?_⟩
        obtain ⟨u, ul, rfl, h1, h2⟩ := hr.c
        obtain ⟨h3, h4⟩ := hq σ ul h2
        exact ⟨by simp at h3 ⊢; omega, .cons h1 (by simpa using h4)⟩
    | succ o =>
      obtain ⟨q, hk, hq⟩ := ih (o := o) (m := m) (k := k) h
      refine ⟨q, hk, fun σ vl hr => ?_⟩
      obtain ⟨u, ul, rfl, h1, h2⟩ := hr.c
      obtain ⟨h3, h4⟩ := hq σ ul h2
      exact ⟨by simp; omega, by simpa using h4⟩
theorem putK_t {l : V} : ∀ {o : Nat} {r : V} {k : V → Bool}, putK l o r k = true → ∃ q, k q = true ∧ ∀ σ vl xs, RelL σ l vl → RelL σ r xs → o + xs.length ≤ vl.length ∧ RelL σ q (vl.take o ++ xs ++ vl.drop (o + xs.length)) := by
  induction l with
  | n =>
    intro o r k h
    cases o with
    | succ o => cases h
    | zero =>
      rcases onL_t h with ⟨rfl, h⟩ | ⟨_, _, _, _, _, _, _, _, h⟩
      · exact ⟨.n, h, fun σ vl xs hl hr => by rw [hl.n, hr.n]; exact ⟨Nat.le_refl _, .nil⟩⟩
      · cases h
  | c t a b d p v l' _ ih =>
    intro o r k h
    cases o with
    | zero =>
      rcases onL_t h with ⟨rfl, h⟩ | ⟨t', a', b', d', p', x, r', rfl, h⟩
      · refine ⟨vCons v l', h, fun σ vl xs hl hr => ?_⟩
        obtain ⟨u, ul, rfl, h1, h2⟩ := hl.c
        rw [hr.n]
        exact ⟨by simp, by simpa [vCons] using RelL.cons (p := .h) (t := 13) (a := 0) (b := 0) (d := 0) h1 h2⟩
      · obtain ⟨q, hk, hq⟩ := ih (o := 0) (r := r') (k := fun q => k (vCons x q)) h
        refine ⟨vCons x q, hk, fun σ vl xs hl hr => ?_⟩
        obtain ⟨u, ul, rfl, h1, h2⟩ := hl.c
        obtain ⟨y, yl, rfl, h3, h4⟩ := hr.c
        obtain ⟨h5, h6⟩ := hq σ ul yl h2 h4
        exact ⟨by simp at h5 ⊢; omega, by simpa [vCons] using RelL.cons (p := .h) (t := 13) (a := 0) (b := 0) (d := 0) h3 h6⟩
    | succ o =>
      obtain ⟨q, hk, hq⟩ := ih (o := o) (r := r) (k := fun q => k (vCons v q)) h
      refine ⟨vCons v q, hk, fun σ vl xs hl hr => ?_⟩
      obtain ⟨u, ul, rfl, h1, h2⟩ := hl.c
      obtain ⟨h5, h6⟩ := hq σ ul xs h2 hr
      exact ⟨by simp; omega, by simpa [vCons, Nat.add_right_comm] using RelL.cons (p := .h) (t := 13) (a := 0) (b := 0) (d := 0) h1 h6⟩
theorem appK_t {l : V} : ∀ {m : V} {k : V → Bool}, appK l m k = true → ∃ q, k q = true ∧ ∀ σ vl ml, RelL σ l vl → RelL σ m ml → RelL σ q (vl ++ ml) := by
  induction l with
  | n => intro m k h; exact ⟨m, h, fun σ vl ml hl hm => by rw [hl.n]; exact hm⟩
  | c t a b d p v r _ ih =>
    intro m k h
    obtain ⟨q, hk, hq⟩ := ih (m := m) (k := fun q => k (vCons v q)) h
    refine ⟨vCons v q, hk, fun σ vl ml hl hm => ?_⟩
    obtain ⟨u, ul, rfl, h1, h2⟩ := hl.c
    exact .cons h1 (hq σ ul ml h2 hm)
theorem lenK_t {l : V} : ∀ {n : Nat} {k : Nat → Bool}, lenK l n k = true → ∃ m, k m = true ∧ ∀ σ vl, RelL σ l vl → m = n + vl.length := by
  induction l with
  | n => intro n k h; exact ⟨n, h, fun σ vl hl => by rw [hl.n]; rfl⟩
  | c t a b d p v r _ ih =>
    intro n k h
    have h' : fN n (fun m => lenK r (Nat.succ m) k) = true := h
    rw [fN_eq] at h'
    obtain ⟨m, hk, hm⟩ := ih (n := n + 1) (k := k) h'
    refine ⟨m, hk, fun σ vl hl => ?_⟩
    obtain ⟨u, ul, rfl, h1, h2⟩ := hl.c
    rw [hm σ ul h2]; simp; omega
theorem oneV_t {v : V} {c : Bool} (h : oneV v c = true) : c = true ∧ ∀ σ x, Rel σ v x → x.oneCell' = true := by
  obtain ⟨g, a, b, d, p, l, r, rfl, h1⟩ := onC_t h
  obtain ⟨hg, h2⟩ := bi_g h1
  obtain ⟨hg2, h3⟩ := bi_g h2
  refine ⟨h3, fun σ x hr => ?_⟩
  cases hr <;> first | rfl | assumption | exact absurd rfl (beq_f hg) | exact absurd rfl (beq_f hg2)
theorem allOne_t {l : V} : ∀ {k : Bool}, allOne l k = true → k = true ∧ ∀ σ vl, RelL σ l vl → ∀ x ∈ vl, x.oneCell' = true := by
  induction l with
  | n => intro k h; exact ⟨h, fun σ vl hl => by rw [hl.n]; simp⟩
  | c t a b d p v r _ ih =>
    intro k h
    obtain ⟨h1, h2⟩ := oneV_t (v := v) (c := allOne r k) h
    obtain ⟨h3, h4⟩ := ih h1
    refine ⟨h3, fun σ vl hl => ?_⟩
    obtain ⟨u, ul, rfl, h5, h6⟩ := hl.c
    intro x hx
    rcases List.mem_cons.1 hx with rfl | hx
    · exact h2 σ _ h5
    · exact h4 σ ul h6 x hx
theorem cellsK_t {v : V} {k : V → Bool} (h : cellsK v k = true) : ∃ l, k l = true ∧ ∀ σ x, Rel σ v x → ∃ xl, RelL σ l xl ∧ x.cells = xl.toArray := by
  obtain ⟨g, a, b, d, p, l, r, rfl, h1⟩ := onC_t h
  rcases bi_t h1 with ⟨hg, h2⟩ | ⟨hg, h2⟩
  · have hg := beq_t hg
    subst hg
    refine ⟨l, h2, fun σ x hr => ?_⟩
    obtain ⟨vl, rfl, hl⟩ := hr.c12
    exact ⟨vl, hl, rfl⟩
  · refine ⟨_, h2, fun σ x hr => ⟨[x], .cons hr .nil, ?_⟩⟩
    cases hr <;> first | rfl | assumption | exact absurd rfl (beq_f hg)
theorem repK_t {z : V} {n : Nat} : ∀ {k : V → Bool}, repK n z k = true → ∃ q, k q = true ∧ ∀ σ zl, RelL σ z zl → RelL σ q (List.replicate n zl).flatten := by
  induction n with
  | zero => intro k h; exact ⟨.n, h, fun _ _ _ => .nil⟩
  | succ n ih =>
    intro k h
    obtain ⟨q, hk, hq⟩ := ih (k := fun q => appK z q k) h
    obtain ⟨q', hk', hq'⟩ := appK_t hk
    exact ⟨q', hk', fun σ zl hz => by rw [List.replicate_succ, List.flatten_cons]; exact hq' σ _ _ hz (hq σ zl hz)⟩
def byteV (b : UInt8) : Value := .int .u8 b.toNat
theorem kc_inj : ∀ {q q' : IntKind}, kc q = kc q' → q = q' := by intro q q' h; cases q <;> cases q' <;> first | rfl | cases h
theorem wrap_u8 {a : Nat} (h : a < 256) : IntKind.u8.wrap a = a := by
  simp only [IntKind.wrap, IntKind.signed, IntKind.bits]
  simp
  omega
theorem bytesK_t {l : V} : ∀ {k : Nat → Nat → Bool}, bytesK l k = true → ∃ a n, k a n = true ∧ ∀ σ vl, RelL σ l vl → ∃ bs : List UInt8, vl = bs.map byteV ∧ a = strNum bs ∧ n = bs.length := by
  induction l with
  | n => intro k h; exact ⟨0, 0, h, fun σ vl hl => ⟨[], by rw [hl.n]; rfl, rfl, rfl⟩⟩
  | c t a b d p v r _ ih =>
    intro k h
    obtain ⟨x, d', p', l', r', rfl, h1⟩ := onInt_t (v := v) h
    obtain ⟨y, n, h2, h3⟩ := ih (k := fun a n => fN (Nat.add x (Nat.mul 256 a)) fun a' => fN (Nat.succ n) fun n' => k a' n') h1
    rw [fN_eq, fN_eq] at h2
    refine ⟨_, _, h2, fun σ vl hl => ?_⟩
    obtain ⟨u, ul, rfl, h5, h6⟩ := hl.c
    obtain ⟨bs, rfl, rfl, rfl⟩ := h3 σ ul h6
    obtain ⟨q, rfl, hq, hx⟩ := h5.c1
    obtain rfl : q = .u8 := kc_inj hq.symm
    have hx : x < 256 := hx
    refine ⟨UInt8.ofNat x :: bs, ?_, ?_, rfl⟩
    · simp only [List.map_cons, byteV]
      rw [wrap_u8 hx]
      congr 2
      simp; omega
    · show x + 256 * strNum bs = (UInt8.ofNat x).toNat + 256 * strNum bs
      have : (UInt8.ofNat x).toNat = x := by simp; omega
      rw [this]
theorem ofBytesK_t {n : Nat} : ∀ {a : Nat} {k : V → Bool}, ofBytesK n a k = true → ∃ q, k q = true ∧ ∀ σ (bs : List UInt8), a = strNum bs → bs.length = n → RelL σ q (bs.map byteV) := by
  induction n with
  | zero => intro a k h; exact ⟨.n, h, fun σ bs _ hl => by rw [List.eq_nil_of_length_eq_zero hl]; exact .nil⟩
  | succ n ih =>
    intro a k h
    have h : fN (Nat.mod a 256) (fun b => fN (Nat.div a 256) fun a' => ofBytesK n a' fun q => k (vCons (vInt 4 b) q)) = true := h
    rw [fN_eq, fN_eq] at h
    obtain ⟨q, hk, hq⟩ := ih h
    refine ⟨_, hk, fun σ bs ha hl => ?_⟩
    cases bs with
    | nil => cases hl
    | cons b bs =>
      have hb := b.toNat_lt
      have ha : a = b.toNat + 256 * strNum bs := ha
      refine .cons (.int (q := .u8) rfl (by show a % 256 < 256; omega) ?_) (hq σ bs (by show a / 256 = _; omega) (by simpa using hl))
      have : Nat.mod a 256 = b.toNat := by show a % 256 = _; omega
      rw [this, wrap_u8 (by omega)]
end Go.Rc
