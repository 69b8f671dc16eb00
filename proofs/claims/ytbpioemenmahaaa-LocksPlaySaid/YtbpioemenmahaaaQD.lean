/- Locks: group. Locks: group, the walk. Locks: coarser. Locks: coarser, the walk. -/
import Derived.Test.YtbpioemenmahaaaQC
set_option linter.unusedVariables false
set_option linter.unusedSimpArgs false
set_option linter.unnecessarySimpa false
namespace Go.Proofs.Ytbpioemenmahaaa
open Go.Sym

/-! counts -/
def mv (M : List (Lk × Nat)) : List (Lk × Value) := M.map fun p => (p.1, .int .i64 p.2)
def cM (M : List (Lk × Nat)) (x : Lk) : Nat := ((M.find? fun p => p.1 = x).map (·.2)).getD 0
def hasM (M : List (Lk × Nat)) (x : Lk) : Bool := M.any fun p => p.1 = x
def setM (M : List (Lk × Nat)) (x : Lk) (n : Nat) : List (Lk × Nat) := if hasM M x then M.map (fun p => if p.1 = x then (p.1, n) else p) else M ++ [(x, n)]
theorem lookV_mv (M : List (Lk × Nat)) (x : Lk) : lookV (mv M) x = (M.find? fun p => p.1 = x).map fun p => .int .i64 p.2 := by
  induction M with
  | nil => rfl
  | cons p M ih =>
    unfold mv at *
    rw [List.map_cons, lookV_cons, ih]
    by_cases h : p.1 = x <;> simp [h]
theorem lookEq3 (M : List (Lk × Nat)) (x : Lk) : (lookV (mv M) x).getD (.int .i64 0) = .int .i64 (cM M x) := by
  rw [lookV_mv]; unfold cM
  cases M.find? fun p => p.1 = x <;> rfl
theorem lookEq4 (M : List (Lk × Nat)) (x : Lk) : (lookV (entV (mv M) x (.int .i64 0)) x).getD (.int .i64 0) = .int .i64 (cM M x) := by
  rw [lookV_entV, lookEq3]
theorem hasK_mv (M : List (Lk × Nat)) (x : Lk) : hasK (mv M) x = hasM M x := by
  unfold hasK hasM mv
  rw [List.any_map]; rfl
theorem putV_mv (M : List (Lk × Nat)) (x : Lk) (n : Nat) : putV (mv M) x (.int .i64 n) = mv (setM M x n) := by
  unfold putV setM
  rw [hasK_mv]
  split
  · simp only [mv, List.map_map]
    apply List.map_congr_left
    intro p _
    simp only [Function.comp]
    split <;> rfl
  · simp [mv]
theorem cM_cons (p : Lk × Nat) (M : List (Lk × Nat)) (y : Lk) : cM (p :: M) y = if p.1 = y then p.2 else cM M y := by
  unfold cM
  by_cases h : p.1 = y <;> simp [h]
theorem cM_append (M : List (Lk × Nat)) (x y : Lk) (n : Nat) (h : hasM M x = false) : cM (M ++ [(x, n)]) y = if y = x then n else cM M y := by
  induction M with
  | nil => rw [List.nil_append, cM_cons]; by_cases hy : y = x
           · simp [hy]
           · have : ¬ x = y := fun e => hy e.symm
             simp [hy, this]
  | cons p M ih =>
    simp only [hasM, List.any_cons, Bool.or_eq_false_iff] at h
    rw [List.cons_append, cM_cons, cM_cons, ih h.2]
    by_cases hp : p.1 = y
    · have : ¬ y = x := fun e => by subst e; simp [hp] at h
      simp [hp, this]
    · simp [hp]
theorem cM_setM (M : List (Lk × Nat)) (x y : Lk) (n : Nat) : cM (setM M x n) y = if y = x then n else cM M y := by
  unfold setM
  by_cases h : hasM M x = true
  · rw [if_pos h]
    induction M with
    | nil => simp [hasM] at h
    | cons p M ih =>
      rw [List.map_cons, cM_cons, cM_cons]
      by_cases hp : p.1 = x
      · simp only [hp, if_true]
        by_cases hy : y = x
        · simp [hy]
        · have h1 : ¬ x = y := fun e => hy e.symm
          simp only [h1, hy, if_false]
          by_cases hM : hasM M x = true
          · rw [ih hM, if_neg hy]
          · have : M.map (fun p => if p.1 = x then (p.1, n) else p) = M := by
              conv => rhs; rw [← List.map_id M]
              apply List.map_congr_left
              intro q hq
              rw [if_neg]; · rfl
              intro hqx
              exact hM (List.any_eq_true.2 ⟨q, hq, by simp [hqx]⟩)
            rw [this]
      · simp only [hp, if_false]
        have hM : hasM M x = true := by simpa [hasM, hp] using h
        rw [ih hM]
        by_cases hy : y = x
        · simp [hy, hp]
        · simp [hy]
  · rw [if_neg h]; exact cM_append M x y n (by simpa using h)
theorem mem_cM {M : List (Lk × Nat)} (hn : (M.map (·.1)).Nodup) {p : Lk × Nat} (hp : p ∈ M) : cM M p.1 = p.2 := by
  induction M with
  | nil => simp at hp
  | cons q M ih =>
    rw [List.map_cons, List.nodup_cons] at hn
    rw [cM_cons]
    rcases List.mem_cons.1 hp with rfl | hp
    · simp
    · rw [if_neg, ih hn.2 hp]
      intro e; exact hn.1 (List.mem_map.2 ⟨p, hp, e.symm⟩)
theorem cM_pos {M : List (Lk × Nat)} {x : Lk} (h : 0 < cM M x) : (x, cM M x) ∈ M := by
  induction M with
  | nil => simp [cM] at h
  | cons q M ih =>
    rw [cM_cons] at h ⊢
    by_cases hq : q.1 = x
    · simp only [hq, if_true]; rw [← hq]; exact List.mem_cons_self
    · simp only [hq, if_false] at h ⊢; exact List.mem_cons_of_mem _ (ih h)
theorem mv_nodup {M : List (Lk × Nat)} {es : Array MapEntry} {c : Nat} (h : MapOf encLock (mv M) es c) : (M.map (·.1)).Nodup := by
  have := h.keys
  unfold mv at this
  simpa [Function.comp_def] using this
def cnt (to : Lk → Option Lk) (V : List Lk) (x : Lk) : Nat := (V.filter fun k => decide (to k = some x)).length
theorem cnt_cons (to : Lk → Option Lk) (k : Lk) (V : List Lk) (x : Lk) : cnt to (k :: V) x = if to k = some x then cnt to V x + 1 else cnt to V x := by
  unfold cnt
  by_cases h : to k = some x <;> simp [h]
end Go.Proofs.Ytbpioemenmahaaa
namespace Go.Proofs.Ytbpioemenmahaaa
open Go.Sym

theorem nodup_len {α : Type} [DecidableEq α] : ∀ (V S : List α), V.Nodup → (∀ x ∈ V, x ∈ S) → V.length ≤ S.length
  | [], _, _, _ => by simp
  | v :: V, S, hn, hs => by
    rw [List.nodup_cons] at hn
    have h1 := nodup_len V (S.erase v) hn.2 fun x hx => (List.mem_erase_of_ne (fun e => hn.1 (by rw [← e]; exact hx))).2 (hs x (List.mem_cons_of_mem _ hx))
    have h2 := List.length_erase_of_mem (hs v List.mem_cons_self)
    have h3 : 0 < S.length := List.length_pos_of_mem (hs v List.mem_cons_self)
    simp only [List.length_cons]; omega
theorem cnt_same (to : Lk → Option Lk) {V S : List Lk} (hV : V.Nodup) (hS : S.Nodup) (h1 : ∀ x ∈ V, x ∈ S) (h2 : ∀ x ∈ S, x ∈ V) (x : Lk) : cnt to V x = cnt to S x := by
  unfold cnt
  apply Nat.le_antisymm
  · exact nodup_len _ _ (hV.filter _) fun y hy => by
      rw [List.mem_filter] at hy ⊢; exact ⟨h1 y hy.1, hy.2⟩
  · exact nodup_len _ _ (hS.filter _) fun y hy => by
      rw [List.mem_filter] at hy ⊢; exact ⟨h2 y hy.1, hy.2⟩
theorem cnt_le (to : Lk → Option Lk) (V : List Lk) (x : Lk) : cnt to V x ≤ V.length := List.length_filter_le _ _
/-- the best of the groups that were looked at -/
def BestV (M : List (Lk × Nat)) (vis : List Lk) (g : Lk) : Prop := (cM M g = 0 ∧ ∀ x ∈ vis, cM M x < 2) ∨ (2 ≤ cM M g ∧ ∀ x ∈ vis, 2 ≤ cM M x → cM M x < cM M g ∨ (cM M x = cM M g ∧ ¬ orderT x g < 0))
theorem orderT_lt (a b : Lk) : orderT a b < 0 ↔ a.tx < b.tx ∨ (a.tx = b.tx ∧ (a.on.table < b.on.table ∨ (a.on.table = b.on.table ∧ a.on.page < b.on.page))) := by
  unfold orderT orI cmpI
  by_cases h1 : a.tx < b.tx
  · simp [h1]
  · by_cases h2 : a.tx > b.tx
    · simp [h1, h2]; omega
    · by_cases h3 : a.on.table < b.on.table
      · simp [h1, h2, h3]; omega
      · by_cases h4 : a.on.table > b.on.table
        · simp [h1, h2, h3, h4]; omega
        · by_cases h5 : a.on.page < b.on.page
          · simp [h1, h2, h3, h4, h5]; omega
          · simp [h1, h2, h3, h4, h5]; split <;> omega
theorem best_new {M : List (Lk × Nat)} {vis : List Lk} {g k : Lk} (hB : BestV M vis g) (h2 : 2 ≤ cM M k) (h : cM M g < cM M k ∨ (cM M g = cM M k ∧ orderT k g < 0)) : BestV M (k :: vis) k := by
  refine .inr ⟨h2, fun x hx hx2 => ?_⟩
  rcases List.mem_cons.1 hx with rfl | hx
  · refine .inr ⟨rfl, ?_⟩
    rw [orderT_lt]; omega
  · rcases hB with ⟨h0, hall⟩ | ⟨h1, hall⟩
    · have := hall x hx; omega
    · rcases hall x hx hx2 with h3 | ⟨h3, h4⟩
      · left; omega
      · rcases h with h | ⟨h, h5⟩
        · left; omega
        · refine .inr ⟨by omega, ?_⟩
          rw [orderT_lt] at *
          omega
theorem best_keep {M : List (Lk × Nat)} {vis : List Lk} {g k : Lk} (hB : BestV M vis g) (h : ¬ (2 ≤ cM M k ∧ (cM M g < cM M k ∨ (cM M g = cM M k ∧ orderT k g < 0)))) : BestV M (k :: vis) g := by
  rcases hB with ⟨h0, hall⟩ | ⟨h1, hall⟩
  · refine .inl ⟨h0, List.forall_mem_cons.2 ⟨?_, hall⟩⟩
    omega
  · refine .inr ⟨h1, List.forall_mem_cons.2 ⟨fun h2 => ?_, hall⟩⟩
    by_cases h3 : cM M k < cM M g
    · exact .inl h3
    · right; omega
/-- what group finds -/
def Best (to : Lk → Option Lk) (S : List Lk) (g : Lk) : Prop := 2 ≤ cnt to S g ∧ ∀ x, 2 ≤ cnt to S x → cnt to S x < cnt to S g ∨ (cnt to S x = cnt to S g ∧ ¬ orderT x g < 0)
theorem group_tri {g : FuncId} {to : Lk → Option Lk} {p m : Nat} {most : Int} {es : Array MapEntry} {c : Nat} {S : List Lk} (hM : MapOf encLock (lv S) es c) (hS : S.length ≤ 1000000) (hen : Enters Try.prog g)
    (hto : ∀ k : Lk, ∃ gk b, TriQ Try.prog g #[encLock k] [] (.tuple #[encLock gk, .bool b]) ∧ to k = if b = true then some gk else none) (hz : ∀ k, to k ≠ some ⟨0, ⟨0, 0, 0, 0⟩⟩) :
    Tri Try.prog 65 #[.pointer (some ⟨p, 0, none⟩), .func (.func g) #[] #[]] (lBlk p m most es c) (fun v L => L = lBlk p m most es c ∧ ((∃ b, v = .tuple #[encLock b, .bool true] ∧ Best to S b) ∨ (∃ b, v = .tuple #[encLock b, .bool false] ∧ ∀ x, cnt to S x < 2))) := by
  have f_mixed := mixed; have f_en77 := en77; have f_fo79_1 := fo79_1; have f_ty3 := ty3; have f_ty4 := ty4; have f_ty77 := ty77; have f_ty82 := ty82; have f_un_114 : Und Try.prog 114 _ := ⟨Try.underlying114⟩; have f_un_77 : Und Try.prog 77 _ := ⟨Try.underlying77⟩; have f_zero3 := zero3; have f_zero4 := zero4; have f_zero82 := zero82; have f_zv3 := zv3; have f_zv4 := zv4
  have f_kl := KL82
  have f_inj := encLock_inj
  refine tri_intro (args := [_, _]) Try.func65 rfl Try.ntmps65 rfl (rs := _) rfl rfl fun E R => ?_
  simp only [fr, lBlk, List.cons_append, List.nil_append]
  (apply sc_seq; apply sc_region; (apply so_alloc; assumption; exact rfl; intro _); (apply so_ex; (apply ex_assign; ((exact Ev.const))); exact rfl); apply so_nil; apply nm_then; apply sc_seq; apply sc_region; (apply so_makeMap; exact rfl; intro _); (apply so_ex; (apply ex_assign; (exact ev_)); exact rfl); apply so_nil; apply nm_then; (apply sc_seq); apply sc_seq; apply sc_region; (apply so_ex; (apply ex_move; (exact ev_)); exact rfl); (apply so_ex; (apply ex_nilCheck; (exact ev_)); exact rfl); (apply so_ex; (apply ex_fieldAddr; (exact ev_); assumption); exact rfl); (apply so_ex; (apply ex_load1; (exact ev_); assumption; (exact mem_); (exact nth_)); exact rfl); (apply so_range; (exact ev_); (exact mem_); assumption; exact rfl; intro _); apply so_nil; apply nm_then; (apply sc_block))
  rename_i b4 mm r
  refine sc_loop (fun k f L => ∃ seen vis M esM cc, At f 0 (.pointer (some ⟨p, 0, none⟩)) ∧ At f 1 (.func (.func g) #[] #[]) ∧ At f 4 (.pointer (some ⟨b4, 0, none⟩)) ∧ At f 6 (.map (some mm)) ∧ At f 18 (.pointer (some ⟨r, 0, none⟩)) ∧
    Held L [(r, .mapIter (some m) c seen c), (mm, .map esM cc), (b4, .cells [Value.int .i64 0, .int .i64 0, .int .i64 0, .int .i64 0, .int .i64 0].toArray 82), (p, .cells [Value.int .i64 most, Value.map (some m)].toArray 79), (m, .map es c)] R ∧
    Iter encLock es c seen vis ∧ vis.Nodup ∧ (∀ x ∈ vis, x ∈ S) ∧ MapOf encLock (mv M) esM cc ∧ (∀ x, cM M x = cnt to vis x) ∧ k = (S.filter fun x => decide (x ∉ vis)).length)
    _ ⟨#[], [], [], #[], 0, (by apply Ev.at; (exact ev_)), (by apply Ev.at; (exact ev_)), (by apply Ev.at; (exact ev_)), (by apply Ev.at; (exact ev_)), (by apply Ev.at; (exact ev_)), (by apply held; (exact sel_); (exact appb_)), Iter.start hM, by simp, by simp, MapOf.empty, fun x => rfl, rfl⟩ ?_
  rintro k f L ⟨seen, vis, M, esM, cc, a0, a1, a4, a6, a18, ⟨G, hG⟩, hI, hnd, hsub, hMM, hcnt, hk⟩
  refine sc_perm hG ?_
  simp only [List.cons_append, List.nil_append]
  ((apply sc_seq); (apply sc_region))
  apply so_nxt; (exact ev_); (intro _; (focus (repeat (first | exact Turn.here | apply Turn.there)))); (exact mem_); assumption; assumption; (exact Nat.le_refl _); (exact encLock_inj); exact rfl
  · intro hall
    have hallS : ∀ x ∈ S, x ∈ vis := fun x hx => hall (x, .bool true) (List.mem_map.2 ⟨x, hx, rfl⟩)
    have hcS : ∀ x, cM M x = cnt to S x := fun x => (hcnt x).trans (cnt_same to hnd (lv_nodup hM) hsub hallS x)
    have hz0 : cM M ⟨0, ⟨0, 0, 0, 0⟩⟩ = 0 := by
      rw [hcS]; unfold cnt
      rw [List.filter_eq_nil_iff.2 (fun k _ => by simpa using hz k)]; rfl
    clear hcnt hk hI hnd hsub hallS hall
    ((apply so_ex; (apply ex_extract; (exact ev_); (exact nth_)); exact rfl); apply so_nil; apply nm_then; (apply sc_seq); (apply sc_cond_false; (exact ev_)); (apply sc_exit); (apply et_then); (apply et_then); (apply et_hit); (apply nm_then); apply sc_seq; apply sc_region; (apply so_alloc; assumption; exact rfl; intro _); apply so_nil; apply nm_then; (apply sc_seq); apply sc_seq; apply sc_region; (apply so_ex; (apply ex_move; (exact ev_)); exact rfl); (apply so_range; (exact ev_); (exact mem_); assumption; exact rfl; intro _); apply so_nil; apply nm_then; (apply sc_block))
    rename_i b10 r2
    refine sc_loop (fun k f L => ∃ seen vis g0, At f 4 (.pointer (some ⟨b4, 0, none⟩)) ∧ At f 6 (.map (some mm)) ∧ At f 10 (.pointer (some ⟨b10, 0, none⟩)) ∧ At f 37 (.pointer (some ⟨r2, 0, none⟩)) ∧
      Held L [(r2, .mapIter (some mm) cc seen cc), (b10, .cells [Value.int .i64 g0.tx, .int .i64 g0.on.kind, .int .i64 g0.on.table, .int .i64 g0.on.page, .int .i64 g0.on.slot].toArray 82), (mm, .map esM cc), (b4, .cells [Value.int .i64 0, .int .i64 0, .int .i64 0, .int .i64 0, .int .i64 0].toArray 82), (p, .cells [Value.int .i64 most, Value.map (some m)].toArray 79), (m, .map es c)] R ∧
      Iter encLock esM cc seen vis ∧ BestV M vis g0 ∧ k = ((M.map (·.1)).filter fun x => decide (x ∉ vis)).length)
      _ ⟨#[], [], ⟨0, ⟨0, 0, 0, 0⟩⟩, (by apply Ev.at; (exact ev_)), (by apply Ev.at; (exact ev_)), (by apply Ev.at; (exact ev_)), (by apply Ev.at; (exact ev_)), (by apply held; (exact sel_); (exact appb_)), Iter.start hMM, .inl ⟨hz0, by simp⟩, rfl⟩ ?_
    rintro k f L ⟨seen, vis, g0, a4, a6, a10, a37, ⟨G, hG⟩, hI, hB, hk⟩
    refine sc_perm hG ?_
    simp only [List.cons_append, List.nil_append]
    ((apply sc_seq); (apply sc_region))
    apply so_nxt; (exact ev_); (intro _; (focus (repeat (first | exact Turn.here | apply Turn.there)))); (exact mem_); exact hMM; exact hI; exact Nat.le_refl _; exact encLock_inj; exact rfl
    · intro hall
      have hbnd : (cM M g0 : Int) ≤ 1000000 := by
        rw [hcS]; have := cnt_le to S g0; omega
      have hall2 : ∀ x, 0 < cM M x → x ∈ vis := fun x hx => hall (x, .int .i64 (cM M x)) (List.mem_map.2 ⟨(x, cM M x), cM_pos hx, rfl⟩)
      by_cases h2 : 2 ≤ cM M g0
      · obtain ⟨gtx, gkd, gtb, gpg, gsl⟩ := g0
        dsimp only
        ((apply so_ex; (apply ex_extract; (exact ev_); (exact nth_)); exact rfl); apply so_nil; apply nm_then; (apply sc_seq); (apply sc_cond_false; (exact ev_)); (apply sc_exit); (apply et_then); (apply et_then); (apply et_hit); (apply nm_then); (apply sc_seq); (apply sc_any1 (id := 14) (s := 4); assumption; (exact ev_); (exact pick_); exact rfl; exact rfl; (apply sa_take (i := 0); kernel_rfl; exact rfl; kernel_rfl; kernel_rfl; exact rfl; exact rfl; (exact sel_); (apply qo_ex; (apply ex_loadN; (exact ev_); assumption; (exact mem_); (exact sub_))); apply sa_take (i := 1); kernel_rfl; exact rfl; kernel_rfl; kernel_rfl; exact rfl; exact rfl; (exact sel_); (apply qo_ex; (apply ex_move; (exact ev_))); apply sa_take (i := 2); kernel_rfl; exact rfl; kernel_rfl; kernel_rfl; exact rfl; exact rfl; (exact sel_); (apply qo_ex; (apply ex_loadN; (exact ev_); assumption; (exact mem_); (exact sub_))); apply sa_take (i := 3); kernel_rfl; exact rfl; kernel_rfl; kernel_rfl; exact rfl; exact rfl; (exact sel_); (apply qo_ex; (apply ex_look; (exact ev_); (exact mem_); assumption; (exact ev_); (first | exact keyEq .. | exact rfl); assumption; assumption; assumption; (first | exact lookEq .. | exact lookEq3 .. | exact lookEq4 .. | assumption))); apply sa_take (i := 4); kernel_rfl; exact rfl; kernel_rfl; kernel_rfl; exact rfl; exact rfl; (exact sel_); (apply qo_ex; (apply ex_geq_t; (exact ev_); ((exact Ev.const)); (first | assumption | omega))); apply sa_one (i := 5); exact rfl; kernel_rfl; exact rfl; (((apply so_store; (exact ev_); (exact ev_); assumption; exact rfl; exact rfl; exact rfl; (focus (repeat (first | exact Turn.here | apply Turn.there))); (focus (repeat (first | exact SetSub.nil | apply SetSub.take | apply SetSub.drop)))))); apply sa_next; (exact sel_); apply sa_take (i := 6); kernel_rfl; exact rfl; kernel_rfl; kernel_rfl; exact rfl; exact rfl; (exact sel_); (apply qo_ex; (apply ex_assign; (exact ev_))); (apply sa_done_then; kernel_rfl))); (apply sc_ret))
        have hbest : Best to S ⟨gtx, ⟨gkd, gtb, gpg, gsl⟩⟩ := by
          rcases hB with ⟨h0, _⟩ | ⟨h1, h3⟩
          · omega
          · refine ⟨by rw [← hcS]; exact h1, fun x hx => ?_⟩
            rw [← hcS] at hx
            have := h3 x (hall2 x (by omega)) hx
            rw [hcS x, hcS _] at this
            exact this
        (apply ret_ok; (focus ((apply Res.agg; (exact ev_); assumption; (exact mem_); (exact sub_)); (apply Res.tmp; (exact ev_)); exact Res.nil)); (exact ⟨rfl, .inl ⟨_, rfl, hbest⟩⟩); (exact sel_); (exact appb_))
      · obtain ⟨gtx, gkd, gtb, gpg, gsl⟩ := g0
        dsimp only
        ((apply so_ex; (apply ex_extract; (exact ev_); (exact nth_)); exact rfl); apply so_nil; apply nm_then; (apply sc_seq); (apply sc_cond_false; (exact ev_)); (apply sc_exit); (apply et_then); (apply et_then); (apply et_hit); (apply nm_then); (apply sc_seq); (apply sc_any1 (id := 14) (s := 4); assumption; (exact ev_); (exact pick_); exact rfl; exact rfl; (apply sa_take (i := 0); kernel_rfl; exact rfl; kernel_rfl; kernel_rfl; exact rfl; exact rfl; (exact sel_); (apply qo_ex; (apply ex_loadN; (exact ev_); assumption; (exact mem_); (exact sub_))); apply sa_take (i := 1); kernel_rfl; exact rfl; kernel_rfl; kernel_rfl; exact rfl; exact rfl; (exact sel_); (apply qo_ex; (apply ex_move; (exact ev_))); apply sa_take (i := 2); kernel_rfl; exact rfl; kernel_rfl; kernel_rfl; exact rfl; exact rfl; (exact sel_); (apply qo_ex; (apply ex_loadN; (exact ev_); assumption; (exact mem_); (exact sub_))); apply sa_take (i := 3); kernel_rfl; exact rfl; kernel_rfl; kernel_rfl; exact rfl; exact rfl; (exact sel_); (apply qo_ex; (apply ex_look; (exact ev_); (exact mem_); assumption; (exact ev_); (first | exact keyEq .. | exact rfl); assumption; assumption; assumption; (first | exact lookEq .. | exact lookEq3 .. | exact lookEq4 .. | assumption))); apply sa_take (i := 4); kernel_rfl; exact rfl; kernel_rfl; kernel_rfl; exact rfl; exact rfl; (exact sel_); (apply qo_ex; (apply ex_geq_f; (exact ev_); ((exact Ev.const)); (first | assumption | omega))); apply sa_one (i := 5); exact rfl; kernel_rfl; exact rfl; (((apply so_store; (exact ev_); (exact ev_); assumption; exact rfl; exact rfl; exact rfl; (focus (repeat (first | exact Turn.here | apply Turn.there))); (focus (repeat (first | exact SetSub.nil | apply SetSub.take | apply SetSub.drop)))))); apply sa_next; (exact sel_); apply sa_take (i := 6); kernel_rfl; exact rfl; kernel_rfl; kernel_rfl; exact rfl; exact rfl; (exact sel_); (apply qo_ex; (apply ex_assign; (exact ev_))); (apply sa_done_then; kernel_rfl))); (apply sc_ret))
        have hno : ∀ x, cnt to S x < 2 := by
          intro x
          rw [← hcS]
          rcases hB with ⟨h0, h3⟩ | ⟨h1, _⟩
          · by_cases hx : 0 < cM M x
            · exact h3 x (hall2 x hx)
            · omega
          · omega
        (apply ret_ok; (focus ((apply Res.agg; (exact ev_); assumption; (exact mem_); (exact sub_)); (apply Res.tmp; (exact ev_)); exact Res.nil)); (exact ⟨rfl, .inr ⟨⟨gtx, ⟨gkd, gtb, gpg, gsl⟩⟩, rfl, hno⟩⟩); (exact sel_); (exact appb_))
    · rintro ⟨k1, v1⟩ seen' hp hnv hI' hcur
      have hp' : ∃ q ∈ M, q.1 = k1 ∧ v1 = .int .i64 q.2 := by
        obtain ⟨q, hq, he⟩ := List.mem_map.1 hp
        simp only [Prod.mk.injEq] at he
        exact ⟨q, hq, he.1, he.2.symm⟩
      obtain ⟨q, hq, rfl, rfl⟩ := hp'
      have hqc := mem_cM (mv_nodup hMM) hq
      have hkM : q.1 ∈ M.map (·.1) := List.mem_map.2 ⟨q, hq, rfl⟩
      have hlt := unseen_lt hkM hnv
      simp only at hnv hI' hcur
      rw [← hqc] at hcur ⊢
      generalize hx1 : q.1 = x1 at *
      obtain ⟨tx, kd, tb, pg, sl⟩ := x1
      obtain ⟨gtx, gkd, gtb, gpg, gsl⟩ := g0
      simp only [encLock] at hcur ⊢
      ((apply so_ex; (apply ex_extract; (exact ev_); (exact nth_)); exact rfl); apply so_nil; apply nm_then; (apply sc_seq); (apply sc_cond_true; (exact ev_)); (apply sc_skip); (apply nm_then); (apply sc_block); apply sc_seq; apply sc_region; (apply so_ex; (apply ex_ent; (exact ev_); (exact mem_); (exact mem_); assumption; assumption); exact rfl); (apply so_ex; (apply ex_extract; (exact ev_); (exact nth_)); exact rfl); (apply so_ex; (apply ex_extract; (exact ev_); (exact nth_)); exact rfl); (apply so_alloc; assumption; exact rfl; intro _); (apply so_store; (exact ev_); (exact ev_); assumption; exact rfl; exact rfl; exact rfl; (focus (repeat (first | exact Turn.here | apply Turn.there))); (focus (repeat (first | exact SetSub.nil | apply SetSub.take | apply SetSub.drop)))); (apply so_ex; (apply ex_assign; (exact ev_)); exact rfl); apply so_nil; apply nm_then; apply sc_seq; apply sc_region; (apply so_ex; (apply ex_move; (exact ev_)); exact rfl); (apply so_split; (apply ex_geq; (exact ev_); ((exact Ev.const))); exact rfl; refine ⟨fun _ => ?_, fun _ => ?_⟩); (apply so_ex; (apply ex_move; (exact ev_)); exact rfl); (apply so_want; exact rfl; (exact ev_); exact rfl; exact rfl); (apply so_ex; (apply ex_move; (exact ev_)); exact rfl); (apply so_want; exact rfl; (exact ev_); exact rfl; exact rfl); (apply so_ex; (apply ex_loadN; (exact ev_); assumption; (exact mem_); (exact sub_)); exact rfl); (apply so_want; exact rfl; (exact ev_); exact rfl; exact rfl); (apply so_ex; (apply ex_look; (exact ev_); (exact mem_); assumption; (exact ev_); (first | exact keyEq .. | exact rfl); assumption; assumption; assumption; (first | exact lookEq .. | exact lookEq3 .. | exact lookEq4 .. | assumption)); exact rfl); (apply so_want; exact rfl; (exact ev_); exact rfl; exact rfl); (apply so_ex; (apply ex_move; (exact ev_)); exact rfl); (apply so_want; exact rfl; (exact ev_); exact rfl; exact rfl); (apply so_split; (apply ex_lss; (exact ev_); (exact ev_)); exact rfl; refine ⟨fun _ => ?_, fun _ => ?_⟩); (apply so_want; exact rfl; (exact ev_); exact rfl; exact rfl); (apply so_ex; (apply ex_move; (exact ev_)); exact rfl); (apply so_skip; exact rfl; (exact ev_); exact rfl; exact rfl; exact rfl); (apply so_skip; exact rfl; (exact ev_); exact rfl; exact rfl; exact rfl); (apply so_skip; exact rfl; (exact ev_); exact rfl; exact rfl; exact rfl); (apply so_skip; exact rfl; (exact ev_); exact rfl; exact rfl; exact rfl); (apply so_skip; exact rfl; (exact ev_); exact rfl; exact rfl; exact rfl); (apply so_skip; exact rfl; (exact ev_); exact rfl; exact rfl; exact rfl); (apply so_skipu; exact rfl; (exact ev_); exact rfl; exact rfl); (apply so_skipu; exact rfl; (exact ev_); exact rfl; exact rfl); (apply so_skipu; exact rfl; (exact ev_); exact rfl; exact rfl); (apply so_skipu; exact rfl; (exact ev_); exact rfl; exact rfl); (apply so_skip; exact rfl; (exact ev_); exact rfl; exact rfl; exact rfl); (apply so_want; exact rfl; (exact ev_); exact rfl; exact rfl); (apply so_ex; (apply ex_pick_t; (exact ev_); ((exact Ev.const))); exact rfl); (apply so_ex; (apply ex_pick_t; (exact ev_); (exact ev_)); exact rfl); apply so_nil; apply nm_then; (apply sc_cond_true; (exact ev_)); (apply sc_region); (apply so_ex; (apply ex_loadN; (exact ev_); assumption; (exact mem_); (exact sub_)); exact rfl); (apply so_store; (exact ev_); (exact ev_); assumption; exact rfl; exact rfl; exact rfl; (focus (repeat (first | exact Turn.here | apply Turn.there))); (focus (repeat (first | exact SetSub.nil | apply SetSub.take | apply SetSub.drop)))); (apply so_nil); (apply nm_block); (apply nm_then); (refine ⟨_, by rw [hk]; exact hlt, seen', _, ⟨tx, ⟨kd, tb, pg, sl⟩⟩, (by apply Ev.at; (exact ev_)), (by apply Ev.at; (exact ev_)), (by apply Ev.at; (exact ev_)), (by apply Ev.at; (exact ev_)), (by apply held; (exact sel_); (exact appb_)), hI', best_new hB (by omega) (by omega), rfl⟩); (apply so_want; exact rfl; (exact ev_); exact rfl; exact rfl); (apply so_ex; (apply ex_move; (exact ev_)); exact rfl); (apply so_want; exact rfl; (exact ev_); exact rfl; exact rfl); (apply so_ex; (apply ex_move; (exact ev_)); exact rfl); (apply so_want; exact rfl; (exact ev_); exact rfl; exact rfl); (apply so_ex; (apply ex_loadN; (exact ev_); assumption; (exact mem_); (exact sub_)); exact rfl); (apply so_want; exact rfl; (exact ev_); exact rfl; exact rfl); (apply so_ex; (apply ex_look; (exact ev_); (exact mem_); assumption; (exact ev_); (first | exact keyEq .. | exact rfl); assumption; assumption; assumption; (first | exact lookEq .. | exact lookEq3 .. | exact lookEq4 .. | assumption)); exact rfl); (apply so_want; exact rfl; (exact ev_); exact rfl; exact rfl); (apply so_ex; (apply ex_move; (exact ev_)); exact rfl); (apply so_want; exact rfl; (exact ev_); exact rfl; exact rfl); (apply so_split; (apply ex_eql; (exact ev_); (exact ev_)); exact rfl; refine ⟨fun _ => ?_, fun _ => ?_⟩); (apply so_want; exact rfl; (exact ev_); exact rfl; exact rfl); (apply so_ex; (apply ex_move; (exact ev_)); exact rfl); (apply so_want; exact rfl; (exact ev_); exact rfl; exact rfl); (apply so_ex; (apply ex_loadN; (exact ev_); assumption; (exact mem_); (exact sub_)); exact rfl); (apply so_want; exact rfl; (exact ev_); exact rfl; exact rfl); (apply so_ex; (apply ex_loadN; (exact ev_); assumption; (exact mem_); (exact sub_)); exact rfl); (apply so_want; exact rfl; (exact ev_); exact rfl; exact rfl); (apply so_callq; (exact Ev.func); (focus ((apply EvL.cons; (exact ev_)); (apply EvL.cons; (exact ev_)); exact EvL.nil)); (focus (repeat (first | exact App.nil | apply App.cons))); assumption; exact order_tri ⟨_, ⟨_, _, _, _⟩⟩ ⟨_, ⟨_, _, _, _⟩⟩; (exact sel_); exact rfl); (apply so_want; exact rfl; (exact ev_); exact rfl; exact rfl); (apply so_split; (apply ex_lss; (exact ev_); ((exact Ev.const))); exact rfl; refine ⟨fun _ => ?_, fun _ => ?_⟩); (apply so_want; exact rfl; (exact ev_); exact rfl; exact rfl); (apply so_ex; (apply ex_pick_t; (exact ev_); (exact ev_)); exact rfl); (apply so_want; exact rfl; (exact ev_); exact rfl; exact rfl); (apply so_ex; (apply ex_pick_f; (exact ev_); (exact ev_)); exact rfl); (apply so_ex; (apply ex_pick_t; (exact ev_); (exact ev_)); exact rfl); apply so_nil; apply nm_then; (apply sc_cond_true; (exact ev_)); (apply sc_region); (apply so_ex; (apply ex_loadN; (exact ev_); assumption; (exact mem_); (exact sub_)); exact rfl); (apply so_store; (exact ev_); (exact ev_); assumption; exact rfl; exact rfl; exact rfl; (focus (repeat (first | exact Turn.here | apply Turn.there))); (focus (repeat (first | exact SetSub.nil | apply SetSub.take | apply SetSub.drop)))); (apply so_nil); (apply nm_block); (apply nm_then); (refine ⟨_, by rw [hk]; exact hlt, seen', _, ⟨tx, ⟨kd, tb, pg, sl⟩⟩, (by apply Ev.at; (exact ev_)), (by apply Ev.at; (exact ev_)), (by apply Ev.at; (exact ev_)), (by apply Ev.at; (exact ev_)), (by apply held; (exact sel_); (exact appb_)), hI', best_new hB (by omega) (by omega), rfl⟩); (apply so_want; exact rfl; (exact ev_); exact rfl; exact rfl); (apply so_ex; (apply ex_pick_t; (exact ev_); (exact ev_)); exact rfl); (apply so_want; exact rfl; (exact ev_); exact rfl; exact rfl); (apply so_ex; (apply ex_pick_f; (exact ev_); (exact ev_)); exact rfl); (apply so_ex; (apply ex_pick_t; (exact ev_); (exact ev_)); exact rfl); apply so_nil; apply nm_then; (apply sc_cond_false; (exact ev_)); (apply sc_skip); (apply nm_block); (apply nm_then); (refine ⟨_, by rw [hk]; exact hlt, seen', _, ⟨gtx, ⟨gkd, gtb, gpg, gsl⟩⟩, (by apply Ev.at; (exact ev_)), (by apply Ev.at; (exact ev_)), (by apply Ev.at; (exact ev_)), (by apply Ev.at; (exact ev_)), (by apply held; (exact sel_); (exact appb_)), hI', best_keep hB (by omega), rfl⟩); (apply so_want; exact rfl; (exact ev_); exact rfl; exact rfl); (apply so_ex; (apply ex_move; (exact ev_)); exact rfl); (apply so_skip; exact rfl; (exact ev_); exact rfl; exact rfl; exact rfl); (apply so_skip; exact rfl; (exact ev_); exact rfl; exact rfl; exact rfl); (apply so_skip; exact rfl; (exact ev_); exact rfl; exact rfl; exact rfl); (apply so_skip; exact rfl; (exact ev_); exact rfl; exact rfl; exact rfl); (apply so_want; exact rfl; (exact ev_); exact rfl; exact rfl); (apply so_ex; (apply ex_pick_f; (exact ev_); ((exact Ev.const))); exact rfl); (apply so_want; exact rfl; (exact ev_); exact rfl; exact rfl); (apply so_ex; (apply ex_pick_f; (exact ev_); (exact ev_)); exact rfl); (apply so_ex; (apply ex_pick_t; (exact ev_); (exact ev_)); exact rfl); apply so_nil; apply nm_then; (apply sc_cond_false; (exact ev_)); (apply sc_skip); (apply nm_block); (apply nm_then); (refine ⟨_, by rw [hk]; exact hlt, seen', _, ⟨gtx, ⟨gkd, gtb, gpg, gsl⟩⟩, (by apply Ev.at; (exact ev_)), (by apply Ev.at; (exact ev_)), (by apply Ev.at; (exact ev_)), (by apply Ev.at; (exact ev_)), (by apply held; (exact sel_); (exact appb_)), hI', best_keep hB (by omega), rfl⟩); (apply so_ex; (apply ex_move; (exact ev_)); exact rfl); (apply so_skip; exact rfl; (exact ev_); exact rfl; exact rfl; exact rfl); (apply so_skip; exact rfl; (exact ev_); exact rfl; exact rfl; exact rfl); (apply so_skip; exact rfl; (exact ev_); exact rfl; exact rfl; exact rfl); (apply so_skip; exact rfl; (exact ev_); exact rfl; exact rfl; exact rfl); (apply so_skip; exact rfl; (exact ev_); exact rfl; exact rfl; exact rfl); (apply so_skip; exact rfl; (exact ev_); exact rfl; exact rfl; exact rfl); (apply so_skipu; exact rfl; (exact ev_); exact rfl; exact rfl); (apply so_skipu; exact rfl; (exact ev_); exact rfl; exact rfl); (apply so_skipu; exact rfl; (exact ev_); exact rfl; exact rfl); (apply so_skipu; exact rfl; (exact ev_); exact rfl; exact rfl); (apply so_skipu; exact rfl; (exact ev_); exact rfl; exact rfl); (apply so_skipu; exact rfl; (exact ev_); exact rfl; exact rfl); (apply so_skipu; exact rfl; (exact ev_); exact rfl; exact rfl); (apply so_skipu; exact rfl; (exact ev_); exact rfl; exact rfl); (apply so_skipu; exact rfl; (exact ev_); exact rfl; exact rfl); (apply so_skipu; exact rfl; (exact ev_); exact rfl; exact rfl); (apply so_skipu; exact rfl; (exact ev_); exact rfl; exact rfl); (apply so_skip; exact rfl; (exact ev_); exact rfl; exact rfl; exact rfl); (apply so_ex; (apply ex_pick_f; (exact ev_); ((exact Ev.const))); exact rfl); apply so_nil; apply nm_then; (apply sc_cond_false; (exact ev_)); (apply sc_skip); (apply nm_block); (apply nm_then); (refine ⟨_, by rw [hk]; exact hlt, seen', _, ⟨gtx, ⟨gkd, gtb, gpg, gsl⟩⟩, (by apply Ev.at; (exact ev_)), (by apply Ev.at; (exact ev_)), (by apply Ev.at; (exact ev_)), (by apply Ev.at; (exact ev_)), (by apply held; (exact sel_); (exact appb_)), hI', best_keep hB (by omega), rfl⟩))
  · rintro ⟨k1, v1⟩ seen' hp hnv hI' hcur
    obtain ⟨hpS, hp2⟩ := mem_lv hp
    simp only at hpS hp2 hnv hI' hcur
    subst hp2
    have hlt := unseen_lt hpS hnv
    obtain ⟨gk, b, hg1, hg2⟩ := hto k1
    have hb1 : (cM M gk : Int) ≤ 1000000 := by
      rw [hcnt]; have := cnt_le to vis gk
      have h2 : vis.length ≤ S.length := nodup_len vis S hnd hsub
      omega
    have hb0 : (0 : Int) ≤ cM M gk := Int.natCast_nonneg _
    obtain ⟨tx, kd, tb, pg, sl⟩ := k1
    obtain ⟨gtx, gkd, gtb, gpg, gsl⟩ := gk
    simp only [encLock] at hg1 hcur ⊢
    cases b with
    | false =>
      ((apply so_ex; (apply ex_extract; (exact ev_); (exact nth_)); exact rfl); apply so_nil; apply nm_then; (apply sc_seq); (apply sc_cond_true; (exact ev_)); (apply sc_skip); (apply nm_then); (apply sc_block); apply sc_seq; apply sc_region; (apply so_ex; (apply ex_ent; (exact ev_); (exact mem_); (exact mem_); assumption; assumption); exact rfl); (apply so_ex; (apply ex_extract; (exact ev_); (exact nth_)); exact rfl); (apply so_alloc; assumption; exact rfl; intro _); (apply so_store; (exact ev_); (exact ev_); assumption; exact rfl; exact rfl; exact rfl; (focus (repeat (first | exact Turn.here | apply Turn.there))); (focus (repeat (first | exact SetSub.nil | apply SetSub.take | apply SetSub.drop)))); apply so_nil; apply nm_then; apply sc_seq; apply sc_region; (apply so_ex; (apply ex_move; (exact ev_)); exact rfl); (apply so_ex; (apply ex_loadN; (exact ev_); assumption; (exact mem_); (exact sub_)); exact rfl); (apply so_callq; (exact ev_); (focus ((apply EvL.cons; (exact ev_)); exact EvL.nil)); (focus (repeat (first | exact App.nil | apply App.cons))); assumption; exact hg1; (exact sel_); exact rfl); (apply so_ex; (apply ex_move; (exact ev_)); exact rfl); (apply so_ex; (apply ex_extract; (exact ev_); (exact nth_)); exact rfl); (apply so_ex; (apply ex_extract; (exact ev_); (exact nth_)); exact rfl); (apply so_alloc; assumption; exact rfl; intro _); (apply so_store; (exact ev_); (exact ev_); assumption; exact rfl; exact rfl; exact rfl; (focus (repeat (first | exact Turn.here | apply Turn.there))); (focus (repeat (first | exact SetSub.nil | apply SetSub.take | apply SetSub.drop)))); (apply so_ex; (apply ex_assign; (exact ev_)); exact rfl); apply so_nil; apply nm_then; apply sc_seq; apply sc_region; (apply so_ex; (apply ex_move; (exact ev_)); exact rfl); apply so_nil; apply nm_then; (apply sc_cond_false; (exact ev_)); (apply sc_skip); (apply nm_block); (apply nm_then))
      refine ⟨_, by rw [hk]; exact hlt, seen', _, M, esM, cc, (by apply Ev.at; (exact ev_)), (by apply Ev.at; (exact ev_)), (by apply Ev.at; (exact ev_)), (by apply Ev.at; (exact ev_)), (by apply Ev.at; (exact ev_)), (by apply held; (exact sel_); (exact appb_)), hI', List.nodup_cons.2 ⟨hnv, hnd⟩, List.forall_mem_cons.2 ⟨hpS, hsub⟩, hMM, fun x => ?_, rfl⟩
      rw [cnt_cons, hcnt, if_neg]; rw [hg2]; simp
    | true =>
      ((apply so_ex; (apply ex_extract; (exact ev_); (exact nth_)); exact rfl); apply so_nil; apply nm_then; (apply sc_seq); (apply sc_cond_true; (exact ev_)); (apply sc_skip); (apply nm_then); (apply sc_block); apply sc_seq; apply sc_region; (apply so_ex; (apply ex_ent; (exact ev_); (exact mem_); (exact mem_); assumption; assumption); exact rfl); (apply so_ex; (apply ex_extract; (exact ev_); (exact nth_)); exact rfl); (apply so_alloc; assumption; exact rfl; intro _); (apply so_store; (exact ev_); (exact ev_); assumption; exact rfl; exact rfl; exact rfl; (focus (repeat (first | exact Turn.here | apply Turn.there))); (focus (repeat (first | exact SetSub.nil | apply SetSub.take | apply SetSub.drop)))); apply so_nil; apply nm_then; apply sc_seq; apply sc_region; (apply so_ex; (apply ex_move; (exact ev_)); exact rfl); (apply so_ex; (apply ex_loadN; (exact ev_); assumption; (exact mem_); (exact sub_)); exact rfl); (apply so_callq; (exact ev_); (focus ((apply EvL.cons; (exact ev_)); exact EvL.nil)); (focus (repeat (first | exact App.nil | apply App.cons))); assumption; exact hg1; (exact sel_); exact rfl); (apply so_ex; (apply ex_move; (exact ev_)); exact rfl); (apply so_ex; (apply ex_extract; (exact ev_); (exact nth_)); exact rfl); (apply so_ex; (apply ex_extract; (exact ev_); (exact nth_)); exact rfl); (apply so_alloc; assumption; exact rfl; intro _); (apply so_store; (exact ev_); (exact ev_); assumption; exact rfl; exact rfl; exact rfl; (focus (repeat (first | exact Turn.here | apply Turn.there))); (focus (repeat (first | exact SetSub.nil | apply SetSub.take | apply SetSub.drop)))); (apply so_ex; (apply ex_assign; (exact ev_)); exact rfl); apply so_nil; apply nm_then; apply sc_seq; apply sc_region; (apply so_ex; (apply ex_move; (exact ev_)); exact rfl); apply so_nil; apply nm_then; (apply sc_cond_true; (exact ev_)); (apply sc_any1m (id := 7) (s := 6); assumption; (exact ev_); (exact pick_); exact rfl; exact rfl; (apply sa_take (i := 0); kernel_rfl; exact rfl; kernel_rfl; kernel_rfl; exact rfl; exact rfl; (exact sel_); (apply qo_ex; (apply ex_move; (exact ev_))); apply sa_take (i := 1); kernel_rfl; exact rfl; kernel_rfl; kernel_rfl; exact rfl; exact rfl; (exact sel_); (apply qo_ex; (apply ex_loadN; (exact ev_); assumption; (exact mem_); (exact sub_))); apply sa_two (i := 2) (j := 4); exact rfl; exact rfl; kernel_rfl; exact rfl; exact rfl; rotate_left 1; ((((apply so_mapEnt; (exact ev_); (intro _ _; (focus (repeat (first | exact Turn.here | apply Turn.there)))); assumption; (exact ev_); (first | exact keyEq .. | exact rfl); assumption; assumption; assumption; (first | exact lookEq .. | exact lookEq3 .. | exact lookEq4 .. | assumption); exact rfl; intro _ _ _ _ _)))); apply sa_next; (exact sel_); (apply sa_take (i := 5); kernel_rfl; exact rfl; kernel_rfl; kernel_rfl; exact rfl; exact rfl; (exact sel_); (apply qo_ex; (apply ex_extract; (exact ev_); (exact nth_))); apply sa_one (i := 2); exact rfl; kernel_rfl; exact rfl; (((apply so_ex; (apply ex_look; (exact ev_); (exact mem_); assumption; (exact ev_); (first | exact keyEq .. | exact rfl); assumption; assumption; assumption; (first | exact lookEq .. | exact lookEq3 .. | exact lookEq4 .. | assumption)); exact rfl))); apply sa_next; (exact sel_); apply sa_take (i := 3); kernel_rfl; exact rfl; kernel_rfl; kernel_rfl; exact rfl; exact rfl; (exact sel_); (apply qo_ex; (apply ex_add; (exact ev_); ((exact Ev.const)); (first | assumption | (apply wrap_in; unfold InI; omega) | exact rfl))); apply sa_one (i := 6); exact rfl; kernel_rfl; exact rfl; (((apply so_entSt; (exact ev_); (exact ev_); (exact ev_); (intro _; (focus (repeat (first | exact Turn.here | apply Turn.there)))); assumption; assumption; assumption; assumption; intro _ _))); apply sa_next; (exact sel_); (apply sa_done; kernel_rfl)); rotate_right 1; ((((apply so_ex; (apply ex_look; (exact ev_); (exact mem_); assumption; (exact ev_); (first | exact keyEq .. | exact rfl); assumption; assumption; assumption; (first | exact lookEq .. | exact lookEq3 .. | exact lookEq4 .. | assumption)); exact rfl)))); apply sa_next; (exact sel_); (apply sa_take (i := 3); kernel_rfl; exact rfl; kernel_rfl; kernel_rfl; exact rfl; exact rfl; (exact sel_); (apply qo_ex; (apply ex_add; (exact ev_); ((exact Ev.const)); (first | assumption | (apply wrap_in; unfold InI; omega) | exact rfl))); apply sa_one (i := 4); exact rfl; kernel_rfl; exact rfl; (((apply so_mapEnt; (exact ev_); (intro _ _; (focus (repeat (first | exact Turn.here | apply Turn.there)))); assumption; (exact ev_); (first | exact keyEq .. | exact rfl); assumption; assumption; assumption; (first | exact lookEq .. | exact lookEq3 .. | exact lookEq4 .. | assumption); exact rfl; intro _ _ _ _ _))); apply sa_next; (exact sel_); apply sa_take (i := 5); kernel_rfl; exact rfl; kernel_rfl; kernel_rfl; exact rfl; exact rfl; (exact sel_); (apply qo_ex; (apply ex_extract; (exact ev_); (exact nth_))); apply sa_one (i := 6); exact rfl; kernel_rfl; exact rfl; (((apply so_entSt; (exact ev_); (exact ev_); (exact ev_); (intro _; (focus (repeat (first | exact Turn.here | apply Turn.there)))); assumption; assumption; assumption; assumption; intro _ _))); apply sa_next; (exact sel_); (apply sa_done; kernel_rfl)))); (apply nm_block); (apply nm_then))
      · rename_i hMM2
        rw [putV_entV] at hMM2
        have hput := putV_mv M ⟨gtx, ⟨gkd, gtb, gpg, gsl⟩⟩ (cM M ⟨gtx, ⟨gkd, gtb, gpg, gsl⟩⟩ + 1)
        rw [Int.natCast_add, Int.natCast_one] at hput
        rw [hput] at hMM2
        refine ⟨_, by rw [hk]; exact hlt, seen', _, _, _, _, (by apply Ev.at; (exact ev_)), (by apply Ev.at; (exact ev_)), (by apply Ev.at; (exact ev_)), (by apply Ev.at; (exact ev_)), (by apply Ev.at; (exact ev_)), (by apply held; (exact sel_); (exact appb_)), hI', List.nodup_cons.2 ⟨hnv, hnd⟩, List.forall_mem_cons.2 ⟨hpS, hsub⟩, hMM2, fun x => ?_, rfl⟩
        rw [cnt_cons, cM_setM, hg2]
        simp only [if_true, Option.some.injEq]
        by_cases hx : x = ⟨gtx, ⟨gkd, gtb, gpg, gsl⟩⟩
        · rw [if_pos hx, if_pos hx.symm, hx, hcnt]
        · rw [if_neg hx, if_neg (fun e => hx e.symm), hcnt]
      · ((apply nm_block); (apply nm_then))
        rename_i hMM2
        rw [putV_entV] at hMM2
        have hput := putV_mv M ⟨gtx, ⟨gkd, gtb, gpg, gsl⟩⟩ (cM M ⟨gtx, ⟨gkd, gtb, gpg, gsl⟩⟩ + 1)
        rw [Int.natCast_add, Int.natCast_one] at hput
        rw [hput] at hMM2
        refine ⟨_, by rw [hk]; exact hlt, seen', _, _, _, _, (by apply Ev.at; (exact ev_)), (by apply Ev.at; (exact ev_)), (by apply Ev.at; (exact ev_)), (by apply Ev.at; (exact ev_)), (by apply Ev.at; (exact ev_)), (by apply held; (exact sel_); (exact appb_)), hI', List.nodup_cons.2 ⟨hnv, hnd⟩, List.forall_mem_cons.2 ⟨hpS, hsub⟩, hMM2, fun x => ?_, rfl⟩
        rw [cnt_cons, cM_setM, hg2]
        simp only [if_true, Option.some.injEq]
        by_cases hx : x = ⟨gtx, ⟨gkd, gtb, gpg, gsl⟩⟩
        · rw [if_pos hx, if_pos hx.symm, hx, hcnt]
        · rw [if_neg hx, if_neg (fun e => hx e.symm), hcnt]
end Go.Proofs.Ytbpioemenmahaaa
namespace Go.Proofs.Ytbpioemenmahaaa
open Go.Sym

/-- promotion until the locks fit: from S it ends at S' (ok: they fit) -/
inductive Co (most : Int) : List Lk → List Lk → Bool → Prop
  | done {S} : ¬ ((S.length : Int) > max most 1) → Co most S S true
  | page {S g S' ok} : (S.length : Int) > max most 1 → Best toPage S g → Co most (addT S g.tx g.on) S' ok → Co most S S' ok
  | table {S g S' ok} : (S.length : Int) > max most 1 → (∀ x, cnt toPage S x < 2) → Best toTable S g → Co most (addT S g.tx g.on) S' ok → Co most S S' ok
  | fail {S} : (S.length : Int) > max most 1 → (∀ x, cnt toPage S x < 2) → (∀ x, cnt toTable S x < 2) → Co most S S false
/-- a group's locks are covered by it -/
def Fits (to : Lk → Option Lk) : Prop := ∀ k g, to k = some g → k.tx = g.tx ∧ coversT g.on k.on = true
theorem fits_page : Fits toPage := by
  intro k g h
  unfold toPage at h
  split at h
  · simp only [Option.some.injEq] at h; subst h
    rename_i hk
    exact ⟨rfl, by simp [coversT, hk]⟩
  · cases h
theorem fits_table : Fits toTable := by
  intro k g h
  unfold toTable at h
  simp only [Option.some.injEq] at h; subst h
  exact ⟨rfl, by simp [coversT]⟩
theorem split_len {α : Type} (p : α → Bool) (S : List α) : (S.filter p).length + (S.filter fun k => !p k).length = S.length := by
  induction S with
  | nil => rfl
  | cons k S ih => cases h : p k <;> simp [h] <;> omega
theorem addT_lt {to : Lk → Option Lk} (hf : Fits to) {S : List Lk} {g : Lk} (h : 2 ≤ cnt to S g) : (addT S g.tx g.on).length < S.length := by
  have h1 : cnt to S g ≤ (S.filter fun k => decide (k.tx = g.tx) && coversT g.on k.on).length := by
    unfold cnt
    rw [← List.countP_eq_length_filter, ← List.countP_eq_length_filter]
    refine List.countP_mono_left fun k _ hk => ?_
    have := hf k g (by simpa using hk)
    simp [this.1, this.2]
  have h2 := split_len (fun k : Lk => decide (k.tx = g.tx) && coversT g.on k.on) S
  unfold addT
  rw [List.length_append]
  simp only [List.length_singleton]
  omega
theorem groupPage_tri {p m : Nat} {most : Int} {es : Array MapEntry} {c : Nat} {S : List Lk} (hM : MapOf encLock (lv S) es c) (hS : S.length ≤ 1000000) :
    Tri Try.prog 65 #[.pointer (some ⟨p, 0, none⟩), .func (.func 66) #[] #[]] (lBlk p m most es c) (fun v L => L = lBlk p m most es c ∧ ((∃ b, v = .tuple #[encLock b, .bool true] ∧ Best toPage S b) ∨ (∃ b, v = .tuple #[encLock b, .bool false] ∧ ∀ x, cnt toPage S x < 2))) :=
  group_tri hM hS en66 (fun k => ⟨_, _, toPage_tri k, by unfold toPage; by_cases h : k.on.kind = 1 <;> simp [h]⟩) (fun k => by
    unfold toPage; split <;> simp [pageT])
theorem groupTable_tri {p m : Nat} {most : Int} {es : Array MapEntry} {c : Nat} {S : List Lk} (hM : MapOf encLock (lv S) es c) (hS : S.length ≤ 1000000) :
    Tri Try.prog 65 #[.pointer (some ⟨p, 0, none⟩), .func (.func 67) #[] #[]] (lBlk p m most es c) (fun v L => L = lBlk p m most es c ∧ ((∃ b, v = .tuple #[encLock b, .bool true] ∧ Best toTable S b) ∨ (∃ b, v = .tuple #[encLock b, .bool false] ∧ ∀ x, cnt toTable S x < 2))) :=
  group_tri hM hS en67 (fun k => ⟨_, _, toTable_tri k, by unfold toTable; simp⟩) (fun k => by
    unfold toTable; simp [tableT])
end Go.Proofs.Ytbpioemenmahaaa
namespace Go.Proofs.Ytbpioemenmahaaa
open Go.Sym

theorem coarser_tri {p m : Nat} {most : Int} {es : Array MapEntry} {c : Nat} {S : List Lk} (hM : MapOf encLock (lv S) es c) (hS : S.length ≤ 1000000) :
    Tri Try.prog 46 #[.pointer (some ⟨p, 0, none⟩)] (lBlk p m most es c) (fun v L => ∃ S' ok, v = .bool ok ∧ Co most S S' ok ∧ LAt p most S' L) := by
  have f_mixed := mixed; have f_en45 := en45; have f_en65 := en65; have f_en66 := en66; have f_en67 := en67; have f_fo79_0 := fo79_0; have f_fo79_1 := fo79_1; have f_fo82_0 := fo82_0; have f_fo82_1 := fo82_1; have f_ty23 := ty23; have f_ty3 := ty3; have f_ty4 := ty4; have f_ty77 := ty77; have f_ty82 := ty82; have f_un_77 : Und Try.prog 77 _ := ⟨Try.underlying77⟩; have f_zero4 := zero4; have f_zero82 := zero82; have f_zv4 := zv4
  have f_max : (if (1 : Int) > most then 1 else most) = max most 1 := by omega
  refine tri_intro (args := [_]) Try.func46 rfl Try.ntmps46 rfl (rs := _) rfl rfl fun E R => ?_
  simp only [fr, lBlk, List.cons_append, List.nil_append]
  (apply sc_seq; apply sc_region; (apply so_ex; (apply ex_assign; ((exact Ev.const))); exact rfl); apply so_nil; apply nm_then; (apply sc_seq); (apply sc_block))
  refine sc_loop (fun k f L => ∃ S1 m1 es1 c1, At f 0 (.pointer (some ⟨p, 0, none⟩)) ∧ Held L (lBlk p m1 most es1 c1) R ∧ MapOf encLock (lv S1) es1 c1 ∧ S1.length ≤ 1000000 ∧ (∀ S' ok, Co most S1 S' ok → Co most S S' ok) ∧ k = S1.length)
    _ ⟨S, m, es, c, (by apply Ev.at; (exact ev_)), (by apply held; (exact sel_); (exact appb_)), hM, hS, fun _ _ h => h, rfl⟩ ?_
  rintro k f L ⟨S1, m1, es1, c1, a0, ⟨G, hG⟩, hM1, hS1, hCo, hk⟩
  refine sc_perm hG ?_
  simp only [lBlk, List.cons_append, List.nil_append]
  ((apply sc_seq); (apply sc_seq); (apply sc_quiet (id := 1); assumption; kernel_rfl); (apply sq_ex; (apply ex_move; (exact ev_)); exact rfl); (apply sq_ex; (apply ex_nilCheck; (exact ev_)); exact rfl); (apply sq_ex; (apply ex_fieldAddr; (exact ev_); assumption); exact rfl); (apply sq_ex; (apply ex_load1; (exact ev_); assumption; (exact mem_); (exact nth_)); exact rfl); (apply sq_ex; (apply ex_len_map; (exact ev_); (exact mem_); assumption; assumption); exact rfl); (apply sq_ex; (apply ex_move; (exact ev_)); exact rfl); (apply sq_ex; (apply ex_nilCheck; (exact ev_)); exact rfl); (apply sq_ex; (apply ex_fieldAddr; (exact ev_); assumption); exact rfl); (apply sq_ex; (apply ex_load1; (exact ev_); assumption; (exact mem_); (exact nth_)); exact rfl); (apply sq_ex; (apply ex_max; (exact ev_); ((exact Ev.const)); (first | assumption | exact rfl)); exact rfl); (apply sq_split; (apply ex_gtr; (exact ev_); (exact ev_)); exact rfl; refine ⟨fun _ => ?_, fun _ => ?_⟩); (apply sq_nil); (apply nm_then); (apply sc_cond_true; (exact ev_)); (apply sc_skip); (apply nm_then); (apply sc_block); apply sc_seq; apply sc_region; (apply so_ex; (apply ex_move; (exact ev_)); exact rfl))
  · rename_i hgt
    have hgt' : (S1.length : Int) > max most 1 := by simpa [lv] using hgt
    (apply so_call; (exact Ev.func); (focus ((apply EvL.cons; (exact ev_)); (apply EvL.cons; (exact Ev.func)); exact EvL.nil)); (focus (repeat (first | exact App.nil | apply App.cons))); assumption; (exact groupPage_tri (most := most) (m := m1) hM1 hS1); (exact sel_); exact rfl)
    rintro v L' ⟨rfl, ⟨g, rfl, hb⟩ | ⟨g, rfl, hb⟩⟩
    · obtain ⟨gtx, gkd, gtb, gpg, gsl⟩ := g
      simp only [encLock, lBlk, List.cons_append, List.nil_append]
      ((apply so_ex; (apply ex_move; (exact ev_)); exact rfl); (apply so_ex; (apply ex_extract; (exact ev_); (exact nth_)); exact rfl); (apply so_ex; (apply ex_extract; (exact ev_); (exact nth_)); exact rfl); (apply so_alloc; assumption; exact rfl; intro _); (apply so_store; (exact ev_); (exact ev_); assumption; exact rfl; exact rfl; exact rfl; (focus (repeat (first | exact Turn.here | apply Turn.there))); (focus (repeat (first | exact SetSub.nil | apply SetSub.take | apply SetSub.drop)))); (apply so_ex; (apply ex_assign; (exact ev_)); exact rfl); apply so_nil; apply nm_then; (apply sc_seq); apply sc_seq; apply sc_region; (apply so_ex; (apply ex_move; (exact ev_)); exact rfl); (apply so_ex; (apply ex_not; (exact ev_)); exact rfl); apply so_nil; apply nm_then; (apply sc_cond_false; (exact ev_)); (apply sc_skip); (apply nm_then); (apply sc_seq); apply sc_seq; apply sc_region; (apply so_ex; (apply ex_move; (exact ev_)); exact rfl); (apply so_ex; (apply ex_not; (exact ev_)); exact rfl); apply so_nil; apply nm_then; (apply sc_cond_false; (exact ev_)); (apply sc_skip); (apply nm_then); (apply sc_region); (apply so_ex; (apply ex_move; (exact ev_)); exact rfl); (apply so_ex; (apply ex_fieldAddr; (exact ev_); assumption); exact rfl); (apply so_ex; (apply ex_load1; (exact ev_); assumption; (exact mem_); (exact nth_)); exact rfl); (apply so_ex; (apply ex_fieldAddr; (exact ev_); assumption); exact rfl); (apply so_ex; (apply ex_loadN; (exact ev_); assumption; (exact mem_); (exact sub_)); exact rfl))
      (apply so_call; (exact Ev.func); (focus ((apply EvL.cons; (exact ev_)); (apply EvL.cons; (exact ev_)); (apply EvL.cons; (exact ev_)); exact EvL.nil)); (focus (repeat (first | exact App.nil | apply App.cons))); assumption; (exact add_tri (most := most) (m := m1) hM1 gtx ⟨gkd, gtb, gpg, gsl⟩); (exact sel_); exact rfl)
      rintro v L' ⟨m2, es2, c2, rfl, hM2⟩
      simp only [lBlk, List.cons_append, List.nil_append]
      ((apply so_nil); (apply nm_block); (apply nm_then))
      have hlt := addT_lt fits_page hb.1
      exact ⟨_, by rw [hk]; exact hlt, _, m2, es2, c2, (by apply Ev.at; (exact ev_)), (by apply held; (exact sel_); (exact appb_)), hM2, by simp only at hlt ⊢; omega, fun S' ok h => hCo _ _ (Co.page hgt' hb h), rfl⟩
    · obtain ⟨gtx, gkd, gtb, gpg, gsl⟩ := g
      simp only [encLock, lBlk, List.cons_append, List.nil_append]
      ((apply so_ex; (apply ex_move; (exact ev_)); exact rfl); (apply so_ex; (apply ex_extract; (exact ev_); (exact nth_)); exact rfl); (apply so_ex; (apply ex_extract; (exact ev_); (exact nth_)); exact rfl); (apply so_alloc; assumption; exact rfl; intro _); (apply so_store; (exact ev_); (exact ev_); assumption; exact rfl; exact rfl; exact rfl; (focus (repeat (first | exact Turn.here | apply Turn.there))); (focus (repeat (first | exact SetSub.nil | apply SetSub.take | apply SetSub.drop)))); (apply so_ex; (apply ex_assign; (exact ev_)); exact rfl); apply so_nil; apply nm_then; (apply sc_seq); apply sc_seq; apply sc_region; (apply so_ex; (apply ex_move; (exact ev_)); exact rfl); (apply so_ex; (apply ex_not; (exact ev_)); exact rfl); apply so_nil; apply nm_then; (apply sc_cond_true; (exact ev_)); (apply sc_region); (apply so_ex; (apply ex_move; (exact ev_)); exact rfl))
      (apply so_call; (exact Ev.func); (focus ((apply EvL.cons; (exact ev_)); (apply EvL.cons; (exact Ev.func)); exact EvL.nil)); (focus (repeat (first | exact App.nil | apply App.cons))); assumption; (exact groupTable_tri (most := most) (m := m1) hM1 hS1); (exact sel_); exact rfl)
      rintro v L' ⟨rfl, ⟨g, rfl, hb2⟩ | ⟨g, rfl, hb2⟩⟩
      · obtain ⟨gtx, gkd, gtb, gpg, gsl⟩ := g
        simp only [encLock, lBlk, List.cons_append, List.nil_append]
        ((apply so_ex; (apply ex_move; (exact ev_)); exact rfl); (apply so_ex; (apply ex_extract; (exact ev_); (exact nth_)); exact rfl); (apply so_ex; (apply ex_extract; (exact ev_); (exact nth_)); exact rfl); (apply so_store; (exact ev_); (exact ev_); assumption; exact rfl; exact rfl; exact rfl; (focus (repeat (first | exact Turn.here | apply Turn.there))); (focus (repeat (first | exact SetSub.nil | apply SetSub.take | apply SetSub.drop)))); (apply so_ex; (apply ex_assign; (exact ev_)); exact rfl); apply so_nil; apply nm_then; (apply sc_seq); apply sc_seq; apply sc_region; (apply so_ex; (apply ex_move; (exact ev_)); exact rfl); (apply so_ex; (apply ex_not; (exact ev_)); exact rfl); apply so_nil; apply nm_then; (apply sc_cond_false; (exact ev_)); (apply sc_skip); (apply nm_then); (apply sc_region); (apply so_ex; (apply ex_move; (exact ev_)); exact rfl); (apply so_ex; (apply ex_fieldAddr; (exact ev_); assumption); exact rfl); (apply so_ex; (apply ex_load1; (exact ev_); assumption; (exact mem_); (exact nth_)); exact rfl); (apply so_ex; (apply ex_fieldAddr; (exact ev_); assumption); exact rfl); (apply so_ex; (apply ex_loadN; (exact ev_); assumption; (exact mem_); (exact sub_)); exact rfl))
        (apply so_call; (exact Ev.func); (focus ((apply EvL.cons; (exact ev_)); (apply EvL.cons; (exact ev_)); (apply EvL.cons; (exact ev_)); exact EvL.nil)); (focus (repeat (first | exact App.nil | apply App.cons))); assumption; (exact add_tri (most := most) (m := m1) hM1 gtx ⟨gkd, gtb, gpg, gsl⟩); (exact sel_); exact rfl)
        rintro v L' ⟨m2, es2, c2, rfl, hM2⟩
        simp only [lBlk, List.cons_append, List.nil_append]
        ((apply so_nil); (apply nm_block); (apply nm_then))
        have hlt := addT_lt fits_table hb2.1
        exact ⟨_, by rw [hk]; exact hlt, _, m2, es2, c2, (by apply Ev.at; (exact ev_)), (by apply held; (exact sel_); (exact appb_)), hM2, by simp only at hlt ⊢; omega, fun S' ok h => hCo _ _ (Co.table hgt' hb hb2 h), rfl⟩
      · obtain ⟨gtx, gkd, gtb, gpg, gsl⟩ := g
        simp only [encLock, lBlk, List.cons_append, List.nil_append]
        ((apply so_ex; (apply ex_move; (exact ev_)); exact rfl); (apply so_ex; (apply ex_extract; (exact ev_); (exact nth_)); exact rfl); (apply so_ex; (apply ex_extract; (exact ev_); (exact nth_)); exact rfl); (apply so_store; (exact ev_); (exact ev_); assumption; exact rfl; exact rfl; exact rfl; (focus (repeat (first | exact Turn.here | apply Turn.there))); (focus (repeat (first | exact SetSub.nil | apply SetSub.take | apply SetSub.drop)))); (apply so_ex; (apply ex_assign; (exact ev_)); exact rfl); apply so_nil; apply nm_then; (apply sc_seq); apply sc_seq; apply sc_region; (apply so_ex; (apply ex_move; (exact ev_)); exact rfl); (apply so_ex; (apply ex_not; (exact ev_)); exact rfl); apply so_nil; apply nm_then; (apply sc_cond_true; (exact ev_)); apply sc_seq; apply sc_region; (apply so_ex; (apply ex_assign; ((exact Ev.const))); exact rfl); apply so_nil; apply nm_then; (apply sc_ret); (apply rt_then); (apply rt_block); (apply rt_then); (apply rt_block); (apply rt_then); (apply ret_ok; (focus ((apply Res.tmp; (exact ev_)); exact Res.nil)); (exact ⟨S1, false, rfl, hCo _ _ (Co.fail hgt' hb hb2), m1, es1, c1, rfl, hM1⟩); (exact sel_); (exact appb_)))
  · rename_i hgt
    have hgt' : ¬ (S1.length : Int) > max most 1 := by simpa [lv] using hgt
    ((apply sq_nil); (apply nm_then); (apply sc_cond_false; (exact ev_)); (apply sc_exit); (apply et_then); (apply et_then); (apply et_hit); (apply nm_then); apply sc_seq; apply sc_region; (apply so_ex; (apply ex_assign; ((exact Ev.const))); exact rfl); apply so_nil; apply nm_then; (apply sc_ret); (apply ret_ok; (focus ((apply Res.tmp; (exact ev_)); exact Res.nil)); (exact ⟨S1, true, rfl, hCo _ _ (Co.done hgt'), m1, es1, c1, rfl, hM1⟩); (exact sel_); (exact appb_)))
end Go.Proofs.Ytbpioemenmahaaa
