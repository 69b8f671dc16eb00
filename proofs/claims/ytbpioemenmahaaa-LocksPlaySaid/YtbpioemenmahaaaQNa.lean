/- Locks: LocksPlay in plain words: the table and the reference's list go together. -/
import Derived.Test.YtbpioemenmahaaaQMg
import Derived.Test.YtbpioemenmahaaaQJ
import Derived.Test.YtbpioemenmahaaaQG
import Derived.Test.YtbpioemenmahaaaQI
set_option linter.unusedVariables false
set_option linter.unusedSimpArgs false
set_option linter.unnecessarySimpa false
namespace Go.Proofs.Ytbpioemenmahaaa
open Go.Sym

/-- what is known of every lock -/
def VL (S : List Lk) (cls : List (Int × Int)) : Prop := ∀ k ∈ S, mayT k.on = true ∧ (Lit.int .i64 k.tx).wf = true ∧ (k.tx, k.on.table) ∈ cls
theorem VL.filter {S : List Lk} {cls : List (Int × Int)} (h : VL S cls) (p : Lk → Bool) : VL (S.filter p) cls := fun k hk => h k (List.mem_filter.1 hk).1
theorem VL.add {S : List Lk} {cls : List (Int × Int)} (h : VL S cls) {tx : Int} {t : Tgt} (hm : mayT t = true) (hw : (Lit.int .i64 tx).wf = true) (hc : (tx, t.table) ∈ cls) : VL (addT S tx t) cls := fun k hk => by
  rcases mem_addT.1 hk with ⟨h1, _⟩ | rfl
  · exact h k h1
  · exact ⟨hm, hw, hc⟩
theorem VL.mono {S : List Lk} {cls cls' : List (Int × Int)} (h : VL S cls) (hc : ∀ c ∈ cls, c ∈ cls') : VL S cls' := fun k hk => ⟨(h k hk).1, (h k hk).2.1, hc _ (h k hk).2.2⟩
theorem VL.perm {S T : List Lk} {cls : List (Int × Int)} (h : VL S cls) (hp : S.Perm T) : VL T cls := fun k hk => h k (hp.mem_iff.2 hk)
theorem rhas_eq {S T : List Lk} {cls : List (Int × Int)} (hV : VL S cls) (hp : S.Perm T) (tx : Int) (t : Tgt) : rhasT T tx t = hasT S tx t := by
  unfold rhasT hasT
  congr 1
  apply bool_ext'
  rw [List.any_eq_true, List.any_eq_true]
  constructor
  · rintro ⟨k, h1, h2⟩
    have hk := hp.mem_iff.2 h1
    exact ⟨k, hk, by rw [← refCov_eq (hV k hk).1]; exact h2⟩
  · rintro ⟨k, h1, h2⟩
    exact ⟨k, hp.mem_iff.1 h1, by rw [refCov_eq (hV k h1).1]; exact h2⟩
where
  bool_ext' {a b : Bool} (h : a = true ↔ b = true) : a = b := by cases a <;> cases b <;> simp_all
theorem rlay_eq (T : List Lk) (tx : Int) {t : Tgt} (hm : mayT t = true) : rlayT T tx t = addT T tx t := by
  unfold rlayT addT
  congr 1
  apply List.filter_congr
  intro k _
  rw [refCov_eq hm]
theorem addT_perm {S T : List Lk} (hp : S.Perm T) (tx : Int) (t : Tgt) : (addT S tx t).Perm (addT T tx t) := (hp.filter _).append_right _
theorem rlay_perm {S T : List Lk} (hp : S.Perm T) (tx : Int) {t : Tgt} (hm : mayT t = true) : (addT S tx t).Perm (rlayT T tx t) := by
  rw [rlay_eq T tx hm]; exact addT_perm hp tx t
theorem cnt_perm {S T : List Lk} (hp : S.Perm T) (to : Lk → Option Lk) (x : Lk) : cnt to S x = cnt to T x := (hp.filter _).length_eq
/-- a group's name -/
def Named (to : Lk → Option Lk) : Prop := ∃ K sl : Int, ∀ k g, to k = some g → g.on.kind = K ∧ g.on.slot = sl
theorem named_page : Named toPage := ⟨2, -1, fun k g h => by
  unfold toPage at h
  split at h
  · simp only [Option.some.injEq] at h; subst h; exact ⟨rfl, rfl⟩
  · cases h⟩
theorem named_table : Named toTable := ⟨4, -1, fun k g h => by
  unfold toTable at h
  simp only [Option.some.injEq] at h; subst h; exact ⟨rfl, rfl⟩⟩
theorem best_perm {to : Lk → Option Lk} (hN : Named to) {S T : List Lk} (hp : S.Perm T) {g g' : Lk} (h : Best to S g) (h' : Best to T g') : g = g' := by
  have e : ∀ x, cnt to T x = cnt to S x := fun x => (cnt_perm hp to x).symm
  have h1 := h.2 g' (by rw [← e]; exact h'.1)
  have h2 := h'.2 g (by rw [e]; exact h.1)
  rw [e, e] at h2
  obtain ⟨k, hk, hkg⟩ := cnt_pos (S := S) (to := to) (x := g) (by have := h.1; omega)
  obtain ⟨k', hk', hkg'⟩ := cnt_pos (S := T) (to := to) (x := g') (by have := h'.1; omega)
  obtain ⟨K, sl, hKS⟩ := hN
  have a1 := hKS k g hkg
  have a2 := hKS k' g' hkg'
  rw [orderT_lt] at h1 h2
  obtain ⟨tx, ⟨kd, tb, pg, s⟩⟩ := g
  obtain ⟨tx', ⟨kd', tb', pg', s'⟩⟩ := g'
  simp only at h1 h2 a1 a2
  have h3 : tx = tx' ∧ tb = tb' ∧ pg = pg' := by omega
  obtain ⟨rfl, rfl, rfl⟩ := h3
  obtain ⟨rfl, rfl⟩ := a1
  obtain ⟨e1, e2⟩ := a2
  rw [e1, e2]
theorem may_table {t : Tgt} (h : mayT t = true) : 0 ≤ t.table := by
  unfold mayT at h
  split at h
  · simp at h; omega
  · split at h
    · simp at h; omega
    · split at h
      · simp at h; omega
      · cases h
theorem page_group {S : List Lk} {cls : List (Int × Int)} (hV : VL S cls) {g : Lk} (h : 1 ≤ cnt toPage S g) : mayT g.on = true ∧ (Lit.int .i64 g.tx).wf = true ∧ (g.tx, g.on.table) ∈ cls := by
  obtain ⟨k, hk, hkg⟩ := cnt_pos h
  have hv := hV k hk
  unfold toPage at hkg
  split at hkg
  · rename_i hk1
    simp only [Option.some.injEq] at hkg
    subst hkg
    have h2 := hv.1
    unfold mayT at h2
    simp [hk1] at h2
    exact ⟨by simp [mayT, pageT]; omega, hv.2⟩
  · cases hkg
theorem table_group {S : List Lk} {cls : List (Int × Int)} (hV : VL S cls) {g : Lk} (h : 1 ≤ cnt toTable S g) : mayT g.on = true ∧ (Lit.int .i64 g.tx).wf = true ∧ (g.tx, g.on.table) ∈ cls := by
  obtain ⟨k, hk, hkg⟩ := cnt_pos h
  have hv := hV k hk
  unfold toTable at hkg
  simp only [Option.some.injEq] at hkg
  subst hkg
  have := may_table hv.1
  exact ⟨by simp [mayT, tableT]; omega, hv.2⟩
theorem co_sim {most : Int} {S S' : List Lk} {ok : Bool} (h : Co most S S' ok) : ∀ {T T' : List Lk} {ok' : Bool} {cls : List (Int × Int)}, RCo (max most 1) T T' ok' → S.Perm T → VL S cls → ok = ok' ∧ S'.Perm T' ∧ VL S' cls := by
  induction h with
  | done hl =>
    intro T T' ok' cls hr hp hV
    have hle := hp.length_eq
    cases hr with
    | done _ => exact ⟨rfl, hp, hV⟩
    | page h2 => exact absurd h2 (by omega)
    | table h2 => exact absurd h2 (by omega)
    | fail h2 => exact absurd h2 (by omega)
  | @page S g S' ok hl hb hc ih =>
    intro T T' ok' cls hr hp hV
    have hle := hp.length_eq
    have hg := page_group hV (by have := hb.1; omega : 1 ≤ cnt toPage S g)
    cases hr with
    | done h2 => exact absurd hl (by omega)
    | page h2 hb2 hr2 =>
      have e := best_perm named_page hp hb hb2
      subst e
      exact ih hr2 (rlay_perm hp g.tx hg.1) (hV.add hg.1 hg.2.1 hg.2.2)
    | table h2 hno =>
      have := hno g
      rw [← cnt_perm hp] at this
      have := hb.1
      omega
    | fail h2 hno =>
      have := hno g
      rw [← cnt_perm hp] at this
      have := hb.1
      omega
  | @table S g S' ok hl hno hb hc ih =>
    intro T T' ok' cls hr hp hV
    have hle := hp.length_eq
    have hg := table_group hV (by have := hb.1; omega : 1 ≤ cnt toTable S g)
    cases hr with
    | done h2 => exact absurd hl (by omega)
    | @page _ g2 _ _ h2 hb2 hr2 =>
      have h3 := hb2.1
      rw [← cnt_perm hp] at h3
      have := hno g2
      omega
    | table h2 hno2 hb2 hr2 =>
      have e := best_perm named_table hp hb hb2
      subst e
      exact ih hr2 (rlay_perm hp g.tx hg.1) (hV.add hg.1 hg.2.1 hg.2.2)
    | fail h2 hno2 hno3 =>
      have := hno3 g
      rw [← cnt_perm hp] at this
      have := hb.1
      omega
  | @fail S hl hno hno2 =>
    intro T T' ok' cls hr hp hV
    have hle := hp.length_eq
    cases hr with
    | done h2 => exact absurd hl (by omega)
    | @page _ g _ _ h2 hb2 hr2 =>
      have h3 := hb2.1
      rw [← cnt_perm hp] at h3
      have := hno g
      omega
    | @table _ g _ _ h2 hno3 hb2 hr2 =>
      have h3 := hb2.1
      rw [← cnt_perm hp] at h3
      have := hno2 g
      omega
    | fail _ _ _ => exact ⟨rfl, hp, hV⟩
/-! ### how many locks there are -/
def Few (most : Int) (S : List Lk) (cls : List (Int × Int)) : Prop := (S.length : Int) ≤ max (max most 1) cls.length
theorem tables_few {S : List Lk} {cls : List (Int × Int)} (h : ∀ x, cnt toTable S x < 2) (hc : ∀ k ∈ S, (k.tx, k.on.table) ∈ cls) : S.length ≤ cls.length := by
  have hn : (S.map fun k => (k.tx, k.on.table)).Nodup := by
    clear hc
    induction S with
    | nil => exact List.nodup_nil
    | cons k S ih =>
      rw [List.map_cons, List.nodup_cons]
      refine ⟨fun hm => ?_, ih fun x => ?_⟩
      · obtain ⟨k', hk', e⟩ := List.mem_map.1 hm
        have h1 := h ⟨k.tx, tableT k.on.table⟩
        rw [cnt_cons, if_pos (show toTable k = some ⟨k.tx, tableT k.on.table⟩ from rfl)] at h1
        have h2 : 1 ≤ cnt toTable S ⟨k.tx, tableT k.on.table⟩ := by
          unfold cnt
          have : k' ∈ S.filter fun k'' => decide (toTable k'' = some ⟨k.tx, tableT k.on.table⟩) := List.mem_filter.2 ⟨hk', by
            injection e with e1 e2
            simp [toTable, e1, e2]⟩
          exact List.length_pos_of_mem this
        omega
      · have h1 := h x
        rw [cnt_cons] at h1
        split at h1 <;> omega
  have := nodup_len _ cls hn fun x hx => by
    obtain ⟨k, hk, rfl⟩ := List.mem_map.1 hx
    exact hc k hk
  simpa using this
theorem co_few {most : Int} {S S' : List Lk} {ok : Bool} (h : Co most S S' ok) {cls : List (Int × Int)} (hV : VL S cls) : (ok = true → (S'.length : Int) ≤ max most 1) ∧ (ok = false → S'.length ≤ cls.length) := by
  induction h with
  | done hl => exact ⟨fun _ => (by omega), fun h => (by cases h)⟩
  | @page S g S' ok _ hb _ ih =>
    have hg := page_group hV (by have := hb.1; omega : 1 ≤ cnt toPage S g)
    exact ih (hV.add hg.1 hg.2.1 hg.2.2)
  | @table S g S' ok _ _ hb _ ih =>
    have hg := table_group hV (by have := hb.1; omega : 1 ≤ cnt toTable S g)
    exact ih (hV.add hg.1 hg.2.1 hg.2.2)
  | fail _ _ hno => exact ⟨fun h => (by cases h), fun _ => tables_few hno fun k hk => (hV k hk).2.2⟩
/-- both tables -/
structure Both (most : Int) (S T : List Lk) (cls : List (Int × Int)) : Prop where
  perm : S.Perm T
  vl : VL S cls
  few : Few most S cls
  nodup : S.Nodup
/-! ### Read -/
theorem read_sim {most : Int} {S S' T T' : List Lk} {cls : List (Int × Int)} {tx r r' : Int} {t : Tgt} (hB : Both most S T cls) (hw : (Lit.int .i64 tx).wf = true) (hn : S'.Nodup) (h : ReadR most S tx t r S') (h' : RReadR (max most 1) T tx t r' T') :
    r = r' ∧ Both most S' T' ((tx, t.table) :: cls) := by
  have hrh := rhas_eq hB.vl hB.perm tx t
  have hV2 : VL S ((tx, t.table) :: cls) := hB.vl.mono fun c hc => List.mem_cons_of_mem _ hc
  have hF2 : Few most S ((tx, t.table) :: cls) := by
    have := hB.few
    unfold Few at this ⊢
    simp only [List.length_cons]
    omega
  have same : Both most S T ((tx, t.table) :: cls) := ⟨hB.perm, hV2, hF2, hB.nodup⟩
  rcases h with ⟨h1, rfl, rfl⟩ | ⟨h1, h2, rfl, rfl⟩ | ⟨h1, h2, h3⟩
  · rcases h' with ⟨_, rfl, rfl⟩ | ⟨g1, _⟩ | ⟨g1, _⟩
    · exact ⟨rfl, same⟩
    · exact absurd g1 h1
    · exact absurd g1 h1
  · rcases h' with ⟨g1, _⟩ | ⟨_, _, rfl, rfl⟩ | ⟨_, g2, _⟩
    · exact absurd h1 g1
    · exact ⟨rfl, same⟩
    · rw [hrh, h2] at g2; cases g2
  · rcases h' with ⟨g1, _⟩ | ⟨_, g2, _⟩ | ⟨_, g2, g3⟩
    · exact absurd h1 g1
    · rw [hrh, h2] at g2; cases g2
    · have hVa : VL (addT S tx t) ((tx, t.table) :: cls) := hV2.add h1.2 hw (List.mem_cons_self ..)
      have hpa := rlay_perm hB.perm tx h1.2
      rcases h3 with ⟨hc, rfl⟩ | ⟨S2, hc, rfl, rfl⟩
      · rcases g3 with ⟨gc, rfl⟩ | ⟨T2, gc, rfl, rfl⟩
        · have := co_sim hc gc hpa hVa
          have hl := (co_few hc hVa).1 rfl
          exact ⟨rfl, this.2.1, this.2.2, by unfold Few; omega, hn⟩
        · have := co_sim hc gc hpa hVa
          cases this.1
      · rcases g3 with ⟨gc, rfl⟩ | ⟨T2, gc, rfl, rfl⟩
        · have := co_sim hc gc hpa hVa
          cases this.1
        · exact ⟨rfl, same⟩
/-! ### Split -/
theorem owns_same {S T : List Lk} {n leaf to : Int} {zs zs' : List Int} (hp : S.Perm T) (h : Owns S n leaf to zs) (h' : Owns T n leaf to zs') : zs = zs' :=
  sorted_eq (List.Perm.refl zs) h.sorted h.nodup h'.nodup h'.sorted fun x => by
    rw [h.mem x, h'.mem x, hp.mem_iff]
theorem addT_nodup {S : List Lk} (h : S.Nodup) (tx : Int) (t : Tgt) : (addT S tx t).Nodup := by
  unfold addT
  refine List.nodup_append.2 ⟨h.filter _, by simp, fun a ha b hb e => ?_⟩
  rw [List.mem_singleton.1 hb] at e
  subst e
  have := (List.mem_filter.1 ha).2
  simp [coversT_self] at this
theorem co_nodup {most : Int} {S S' : List Lk} {ok : Bool} (h : Co most S S' ok) : S.Nodup → S'.Nodup := by
  induction h with
  | done _ => exact id
  | page _ _ _ ih => exact fun hn => ih (addT_nodup hn _ _)
  | table _ _ _ _ ih => exact fun hn => ih (addT_nodup hn _ _)
  | fail _ _ _ => exact id
theorem split_sim {most : Int} {t : Tgt} {zs : List Int} {S S' : List Lk} (h : SpL most t zs S S') : ∀ {T T' : List Lk} {cls : List (Int × Int)}, RSpL (max most 1) t zs T T' → Both most S T cls → (∀ x ∈ zs, mayT t = true ∧ (Lit.int .i64 x).wf = true ∧ (x, t.table) ∈ cls) → Both most S' T' cls := by
  induction h with
  | nil => intro T T' cls hr hB _; cases hr; exact hB
  | @has tx zs S S' hh _ ih =>
    intro T T' cls hr hB hz
    have hrh := rhas_eq hB.vl hB.perm tx t
    cases hr with
    | has _ hr2 => exact ih hr2 hB fun x hx => hz x (List.mem_cons_of_mem _ hx)
    | lay h2 => rw [hrh, hh] at h2; cases h2
  | @lay tx zs S S2 S' ok hh hc _ ih =>
    intro T T' cls hr hB hz
    have hrh := rhas_eq hB.vl hB.perm tx t
    have hx := hz tx (List.mem_cons_self ..)
    cases hr with
    | has h2 => rw [hrh, hh] at h2; cases h2
    | lay _ hr2 hr3 =>
      have hVa : VL (addT S tx t) cls := hB.vl.add hx.1 hx.2.1 hx.2.2
      have hs := co_sim hc hr2 (rlay_perm hB.perm tx hx.1) hVa
      have hf := co_few hc hVa
      refine ih hr3 ⟨hs.2.1, hs.2.2, ?_, co_nodup hc (addT_nodup hB.nodup tx t)⟩ fun x hx => hz x (List.mem_cons_of_mem _ hx)
      unfold Few
      cases ok with
      | true => have := hf.1 rfl; omega
      | false => have := hf.2 rfl; omega
/-! ### Merge -/
theorem rread_perm {S T : List Lk} {cls : List (Int × Int)} (hV : VL S cls) (hp : S.Perm T) (tx : Int) {t : Tgt} (hm : mayT t = true) : (readT S tx t).Perm (rreadT T tx t) := by
  unfold readT rreadT
  rw [rhas_eq hV hp]
  split
  · exact hp
  · exact rlay_perm hp tx hm
theorem merge_sim {n a b : Int} (h0 : 0 ≤ n ∧ 0 ≤ b) {most : Int} {cls : List (Int × Int)} : ∀ (zs : List Int) {S T : List Lk}, zs.Nodup → Both most S T cls → (∀ x ∈ zs, (⟨x, leafT n a⟩ : Lk) ∈ S) → Both most (mgT (leafT n a) (leafT n b) zs S) (rmgT (leafT n a) (leafT n b) zs T) cls
  | [], S, T, _, hB, _ => hB
  | x :: zs, S, T, hn, hB, hz => by
    have hn2 := List.nodup_cons.1 hn
    have hxS := hz x (List.mem_cons_self ..)
    have hv := hB.vl _ hxS
    have hm : mayT (leafT n b) = true := by simp [mayT, leafT]; omega
    have hVf := hB.vl.filter fun k => !decide (k = (⟨x, leafT n a⟩ : Lk))
    have hpf := hB.perm.filter fun k => !decide (k = (⟨x, leafT n a⟩ : Lk))
    have hlen : (S.filter fun k => !decide (k = (⟨x, leafT n a⟩ : Lk))).length + 1 ≤ S.length := by
      have h1 := split_len (fun k : Lk => decide (k = (⟨x, leafT n a⟩ : Lk))) S
      have h2 : (⟨x, leafT n a⟩ : Lk) ∈ S.filter fun k => decide (k = (⟨x, leafT n a⟩ : Lk)) := List.mem_filter.2 ⟨hxS, by simp⟩
      have h3 := List.length_pos_of_mem h2
      omega
    have hst : Both most (mgStep (leafT n a) (leafT n b) S x) (rmgStep (leafT n a) (leafT n b) T x) cls := by
      refine ⟨rread_perm hVf hpf x hm, ?_, ?_, ?_⟩
      · unfold mgStep readT
        split
        · exact hVf
        · exact hVf.add hm hv.2.1 hv.2.2
      · have h1 := readT_len (S.filter fun k => !decide (k = (⟨x, leafT n a⟩ : Lk))) x (leafT n b)
        have h2 := hB.few
        unfold Few at h2 ⊢
        unfold mgStep
        omega
      · unfold mgStep readT
        split
        · exact hB.nodup.filter _
        · exact addT_nodup (hB.nodup.filter _) _ _
    refine merge_sim h0 zs hn2.2 hst fun y hy => ?_
    rw [mem_mgStep h0]
    refine .inl ⟨hz y (List.mem_cons_of_mem _ hy), fun e => ?_⟩
    injection e with e1
    exact hn2.1 (e1 ▸ hy)
theorem do_sim {most : Int} {S S' T T' : List Lk} {cls : List (Int × Int)} {K tx to r r' : Int} {t : Tgt} (hB : Both most S T cls) (hw : (Lit.int .i64 tx).wf = true) (hn : S'.Nodup) (h : DoAny most S K tx t to r S') (h' : RDoAny (max most 1) T K tx t to r' T') :
    r = r' ∧ Both most S' T' ((tx, t.table) :: cls) := by
  have up : ∀ {S T : List Lk}, Both most S T cls → Both most S T ((tx, t.table) :: cls) := fun hB => ⟨hB.perm, hB.vl.mono fun c hc => List.mem_cons_of_mem _ hc, by
    have := hB.few
    unfold Few at this ⊢
    simp only [List.length_cons]
    omega, hB.nodup⟩
  rcases h with ⟨rfl, rfl, zs, hO, hs⟩ | ⟨rfl, rfl, zs, hO, rfl⟩ | ⟨rfl, rfl, rfl⟩ | ⟨k0, k1, k2, hR⟩
  · rcases h' with ⟨_, rfl, zs', hO', hs'⟩ | ⟨e, _⟩ | ⟨e, _⟩ | ⟨e, _⟩
    · obtain rfl := owns_same hB.perm hO hO'
      refine ⟨rfl, up (split_sim hs hs' hB fun x hx => ?_)⟩
      have h1 := (hO.mem x).1 hx
      have h2 := hB.vl _ h1.2
      exact ⟨by simp [mayT, leafT]; omega, h2.2⟩
    · omega
    · omega
    · exact absurd rfl e
  · rcases h' with ⟨e, _⟩ | ⟨_, rfl, zs', hO', rfl⟩ | ⟨e, _⟩ | ⟨_, e, _⟩
    · omega
    · obtain rfl := owns_same hB.perm hO hO'
      cases zs with
      | nil => exact ⟨rfl, up hB⟩
      | cons x zs =>
        have h1 := (hO.mem x).1 (List.mem_cons_self ..)
        exact ⟨rfl, up (merge_sim ⟨h1.1.1, h1.1.2.2.1⟩ (x :: zs) hO.nodup hB fun y hy => ((hO.mem y).1 hy).2)⟩
    · omega
    · exact absurd rfl e
  · rcases h' with ⟨e, _⟩ | ⟨e, _⟩ | ⟨_, rfl, rfl⟩ | ⟨_, _, e, _⟩
    · omega
    · omega
    · refine ⟨rfl, up ⟨hB.perm.filter _, hB.vl.filter _, ?_, hB.nodup.filter _⟩⟩
      have h1 := List.length_filter_le (fun k : Lk => !decide (k.tx = tx)) S
      have := hB.few
      unfold Few dropT at *
      omega
    · exact absurd rfl e
  · rcases h' with ⟨e, _⟩ | ⟨e, _⟩ | ⟨e, _⟩ | ⟨_, _, _, hR'⟩
    · exact absurd e k0
    · exact absurd e k1
    · exact absurd e k2
    · exact read_sim hB hw hn hR hR'
theorem hold_same {S T : List Lk} {cls : List (Int × Int)} {ts : List Tgt} {zs zs' : List Int} (hp : S.Perm T) (hV : VL S cls) (h : HoldL S ts zs) (h' : RHold T ts zs') : zs = zs' :=
  sorted_eq (List.Perm.refl zs) h.sorted h.nodup h'.nodup h'.sorted fun x => by
    rw [h.mem x, h'.mem x]
    have hk : ∀ k ∈ S, rhits k ts = hits k ts := fun k hk => by
      unfold rhits hits
      congr 1
      funext t
      unfold rhitT hitT
      rw [refCov_eq (hV k hk).1]
    constructor
    · rintro ⟨k, h1, h2, h3⟩
      exact ⟨k, hp.mem_iff.1 h1, h2, by rw [hk k h1]; exact h3⟩
    · rintro ⟨k, h1, h2, h3⟩
      have h4 := hp.mem_iff.2 h1
      exact ⟨k, h4, h2, by rw [← hk k h4]; exact h3⟩
end Go.Proofs.Ytbpioemenmahaaa
