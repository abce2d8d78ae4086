/-
  THE QUEUE'S LAWS: refs are counted. (Own work; steps printed by wip/gen/walk.py.)
-/
import Derived.Test.YtkabedbkkbijhaaB15
namespace Go.AI.Q
open Go Go.AI Go.Proofs
attribute [local irreducible] xOps xw
theorem eq_ref (a b : Ref) : aBin tab .eql 35 (refV a) (refV b) = some (.bool (decide (a = b))) := by
  have e1 : aBin tab .eql 35 (refV a) (refV b) = (aEqFields tab #[.int .i64 a.slot, .int .i64 a.gen] #[.int .i64 b.slot, .int .i64 b.gen] [(0, 3, false), (1, 3, false)]).map .bool := rfl
  have t3 : tab 3 = some { ud := UD.int IntKind.i64, size := 1, bytes := 8, zero := Value.int IntKind.i64 0, eqok := true } := rfl
  rw [e1]
  obtain ⟨s1, g1⟩ := a
  obtain ⟨s2, g2⟩ := b
  cases hs : (s1 == s2) <;> cases hg : (g1 == g2) <;> simp [aEqFields, t3, primUD, aEq1, hs, hg] <;> simp at hs hg <;> simp [hs, hg]
theorem count_ok (l : List Ref) (r : Ref) (hl : l.length ≤ 1000000000) : Pure 13 [refsV l, refV r] (.int .i64 (l.count r)) := by
  intro h Q hQ
  refine run_13 rfl ?_
  refine w_seq (w_region ?_)
  refine xo_val rfl (a_box rfl rfl) ⟨⟩ ?_
  refine xo_val rfl rfl ⟨⟩ ?_
  refine xo_nil (t_norm ?_)
  refine w_seq (w_region ?_)
  refine xo_val rfl rfl ⟨⟩ ?_
  refine xo_nil (t_norm ?_)
  refine w_seq ?_
  refine w_seq (w_region ?_)
  refine xo_val rfl rfl ⟨⟩ ?_
  refine xo_nil (t_norm ?_)
  have hle0 := (Le.refl h).push (.row (refV r).cells.toList true 0)
  have c3 := AH.get_push_new h (.row (refV r).cells.toList true 0)
  refine w_block (w_loop (fun N fr h' => ∃ i : Nat, N + i = l.length ∧ Le (h.push (.row (refV r).cells.toList true 0)) h' ∧ fr 0 = refsV l ∧ fr 3 = .pointer (some ⟨h.n, 0, none⟩) ∧ fr 5 = .int .i64 ((l.take i).count r) ∧ fr 6 = .int .i64 i) l.length ?_ ?_)
  · exact ⟨0, rfl, Le.refl _, rfl, rfl, rfl, rfl⟩
  rintro N fr h1 ⟨i, hN, hle, f0, f3, f5, f6⟩
  rw [← fr_fix f0, ← fr_fix f3, ← fr_fix f5, ← fr_fix f6]
  refine w_seq ?_
  refine w_seq (w_region ?_)
  refine xo_val rfl rfl ⟨⟩ ?_
  refine xo_val rfl rfl ⟨⟩ ?_
  first | refine xo_val rfl (a_len_map rfl rfl rfl rfl rfl rfl) ⟨⟩ ?_ | refine xo_val rfl (a_len_ps rfl rfl rfl rfl rfl rfl) ⟨⟩ ?_ | refine xo_val rfl rfl ⟨⟩ ?_
  refine xo_val rfl (a_bin rfl rfl (bin_lss _ _ _ _ _)) ⟨⟩ ?_
  refine xo_nil (t_norm ?_)
  refine w_cond rfl (fun hlt => w_skip (t_norm ?_)) (fun hge => w_exit (t_exit (b_here (id := 0) (t_norm ?_))))
  · have hlt' : (i : Int) < l.length := of_decide_eq_true hlt
    obtain ⟨x, hx⟩ : ∃ x, l[i]? = some x := ⟨_, List.getElem?_eq_getElem (by omega)⟩
    have c31 := hle.get c3
    have hcl : (l.take i).count r ≤ l.length := Nat.le_trans List.count_le_length (by simp; omega)
    refine w_seq (w_block ?_)
    refine w_seq (w_region ?_)
    refine xo_val rfl rfl ⟨⟩ ?_
    refine xo_val rfl rfl ⟨⟩ ?_
    first | refine xo_val rfl (a_ix_mapN rfl rfl rfl rfl rfl rfl (by assumption)) ⟨⟩ ?_ | refine xo_val rfl (a_ix_ps rfl rfl rfl rfl rfl rfl (by omega) (by assumption)) ⟨⟩ ?_ | refine xo_val rfl (a_ixs rfl rfl rfl rfl rfl (by omega)) ⟨⟩ ?_ | refine xo_val rfl (a_ixa rfl rfl rfl rfl rfl (by omega)) ⟨⟩ ?_
    first | refine xo_val rfl (a_loads_pp rfl rfl rfl rfl) ⟨⟩ ?_ | refine xo_val rfl (a_loads rfl rfl rfl (cells_of (by repeat' first | assumption | exact AH.get_push_new _ _ | exact AH.get_push_at (by first | (simp only [AH.n_push, AH.n_set]; done) | (simp only [AH.n_push, AH.n_set]; rfl)) | refine AH.get_push_old ?_ _ | apply get_same | refine get_other ?_ (by first | assumption | omega | (simp only [AH.n_push, AH.n_set]; omega) | (dsimp only; omega) | (dsimp only; simp only [AH.n_push, AH.n_set]; omega)) | refine Le.get (by assumption) ?_) rfl rfl rfl)) ⟨⟩ ?_
    first | refine xo_val rfl (a_loads_pp rfl rfl rfl rfl) ⟨⟩ ?_ | refine xo_val rfl (a_loads rfl rfl rfl (cells_of (by repeat' first | assumption | exact AH.get_push_new _ _ | exact AH.get_push_at (by first | (simp only [AH.n_push, AH.n_set]; done) | (simp only [AH.n_push, AH.n_set]; rfl)) | refine AH.get_push_old ?_ _ | apply get_same | refine get_other ?_ (by first | assumption | omega | (simp only [AH.n_push, AH.n_set]; omega) | (dsimp only; omega) | (dsimp only; simp only [AH.n_push, AH.n_set]; omega)) | refine Le.get (by assumption) ?_) rfl rfl rfl)) ⟨⟩ ?_
    refine xo_val rfl (a_bin rfl rfl (eq_ref x r)) ⟨⟩ ?_
    refine xo_nil (t_norm ?_)
    have hcnt : (l.take (i + 1)).count r = (l.take i).count r + (if x = r then 1 else 0) := by
      rw [List.take_add_one, hx, List.count_append]
      simp [List.count_singleton]
    by_cases hxr : x = r
    · rw [if_pos hxr] at hcnt
      refine w_cond rfl (fun _ => ?_) (fun e => by simp [hxr] at e)
      refine w_region ?_
      refine xo_val rfl rfl ⟨⟩ ?_
      refine xo_val rfl (a_bin rfl rfl (bin_add64 _ _ _ _ (by omega))) ⟨⟩ ?_
      refine xo_val rfl rfl ⟨⟩ ?_
      refine xo_nil (b_norm (t_norm ?_))
      refine w_region ?_
      refine xo_val rfl rfl ⟨⟩ ?_
      refine xo_val rfl (a_bin rfl rfl (bin_add64 _ _ _ _ (by omega))) ⟨⟩ ?_
      refine xo_val rfl rfl ⟨⟩ ?_
      refine xo_nil ?_
      exact ⟨N - 1, by omega, i + 1, by omega, hle, rfl, rfl, by rw [hcnt]; rfl, rfl⟩
    · rw [if_neg hxr] at hcnt
      refine w_cond rfl (fun e => by simp [hxr] at e) (fun _ => w_skip (b_norm (t_norm ?_)))
      refine w_region ?_
      refine xo_val rfl rfl ⟨⟩ ?_
      refine xo_val rfl (a_bin rfl rfl (bin_add64 _ _ _ _ (by omega))) ⟨⟩ ?_
      refine xo_val rfl rfl ⟨⟩ ?_
      refine xo_nil ?_
      exact ⟨N - 1, by omega, i + 1, by omega, hle, rfl, rfl, by rw [hcnt]; rfl, rfl⟩
  · have hge' : ¬ (i : Int) < l.length := of_decide_eq_false hge
    have hi : i = l.length := by omega
    subst hi
    refine w_seq (w_region ?_)
    refine xo_val rfl rfl ⟨⟩ ?_
    refine xo_val rfl rfl ⟨⟩ ?_
    refine xo_nil (t_norm ?_)
    refine w_ret (ret_of rfl ?_)
    have := hQ _ (hle0.trans hle)
    rw [← List.take_length (l := l)] at this
    exact this
theorem sameRefs_ok (a b : List Ref) (ha : a.length ≤ 1000000000) (hb : b.length ≤ 1000000000) : Tells 19 [refsV a, refsV b] fun r => ∃ n : Bool, r = .bool n ∧ (a.Perm b → n = true) := by
  intro h Q hQ
  refine run_19 rfl ?_
  refine w_seq (w_region ?_)
  refine xo_val rfl rfl ⟨⟩ ?_
  refine xo_nil (t_norm ?_)
  refine w_seq ?_
  refine w_seq (w_region ?_)
  refine xo_val rfl rfl ⟨⟩ ?_
  first | refine xo_val rfl (a_len_map rfl rfl rfl rfl rfl rfl) ⟨⟩ ?_ | refine xo_val rfl (a_len_ps rfl rfl rfl rfl rfl rfl) ⟨⟩ ?_ | refine xo_val rfl rfl ⟨⟩ ?_
  refine xo_val rfl rfl ⟨⟩ ?_
  first | refine xo_val rfl (a_len_map rfl rfl rfl rfl rfl rfl) ⟨⟩ ?_ | refine xo_val rfl (a_len_ps rfl rfl rfl rfl rfl rfl) ⟨⟩ ?_ | refine xo_val rfl rfl ⟨⟩ ?_
  first | refine xo_val rfl (a_bin rfl rfl (bin_neq _ _ _ _ _)) ⟨⟩ ?_ | refine xo_val rfl rfl ⟨⟩ ?_
  refine xo_nil (t_norm ?_)
  refine w_cond rfl (fun hne => ?_) (fun heq => w_skip (t_norm ?_))
  ·
    refine w_seq (w_region ?_)
    refine xo_val rfl rfl ⟨⟩ ?_
    refine xo_nil (t_norm ?_)
    exact w_ret (ret_of rfl (hQ _ _ (Le.refl _) ⟨_, rfl, fun e => by have := e.length_eq; simp [this] at hne⟩))
  have hlen : a.length = b.length := by simp at heq; omega
  refine w_seq ?_
  refine w_seq (w_region ?_)
  refine xo_val rfl rfl ⟨⟩ ?_
  refine xo_nil (t_norm ?_)
  refine w_block (w_loop (fun N fr h' => ∃ i : Nat, N + i = a.length ∧ Le h h' ∧ fr 0 = refsV a ∧ fr 1 = refsV b ∧ fr 5 = .int .i64 i) a.length ?_ ?_)
  · exact ⟨0, rfl, Le.refl _, rfl, rfl, rfl⟩
  rintro N fr h1 ⟨i, hN, hle, f0, f1, f5⟩
  rw [← fr_fix f0, ← fr_fix f1, ← fr_fix f5]
  refine w_seq ?_
  refine w_seq (w_region ?_)
  refine xo_val rfl rfl ⟨⟩ ?_
  refine xo_val rfl rfl ⟨⟩ ?_
  first | refine xo_val rfl (a_len_map rfl rfl rfl rfl rfl rfl) ⟨⟩ ?_ | refine xo_val rfl (a_len_ps rfl rfl rfl rfl rfl rfl) ⟨⟩ ?_ | refine xo_val rfl rfl ⟨⟩ ?_
  refine xo_val rfl (a_bin rfl rfl (bin_lss _ _ _ _ _)) ⟨⟩ ?_
  refine xo_nil (t_norm ?_)
  refine w_cond rfl (fun hlt => w_skip (t_norm ?_)) (fun _ => w_exit (t_exit (b_here (id := 0) (t_norm ?_))))
  · have hlt' : (i : Int) < a.length := of_decide_eq_true hlt
    obtain ⟨x, hx⟩ : ∃ x, a[i]? = some x := ⟨_, List.getElem?_eq_getElem (by omega)⟩
    refine w_seq (w_block ?_)
    refine w_seq (w_region ?_)
    refine xo_val rfl rfl ⟨⟩ ?_
    refine xo_val rfl rfl ⟨⟩ ?_
    refine xo_val rfl rfl ⟨⟩ ?_
    first | refine xo_val rfl (a_ix_mapN rfl rfl rfl rfl rfl rfl (by assumption)) ⟨⟩ ?_ | refine xo_val rfl (a_ix_ps rfl rfl rfl rfl rfl rfl (by omega) (by assumption)) ⟨⟩ ?_ | refine xo_val rfl (a_ixs rfl rfl rfl rfl rfl (by omega)) ⟨⟩ ?_ | refine xo_val rfl (a_ixa rfl rfl rfl rfl rfl (by omega)) ⟨⟩ ?_
    first | refine xo_val rfl (a_loads_pp rfl rfl rfl rfl) ⟨⟩ ?_ | refine xo_val rfl (a_loads rfl rfl rfl (cells_of (by repeat' first | assumption | exact AH.get_push_new _ _ | exact AH.get_push_at (by first | (simp only [AH.n_push, AH.n_set]; done) | (simp only [AH.n_push, AH.n_set]; rfl)) | refine AH.get_push_old ?_ _ | apply get_same | refine get_other ?_ (by first | assumption | omega | (simp only [AH.n_push, AH.n_set]; omega) | (dsimp only; omega) | (dsimp only; simp only [AH.n_push, AH.n_set]; omega)) | refine Le.get (by assumption) ?_) rfl rfl rfl)) ⟨⟩ ?_
    refine xo_val rfl rfl ⟨⟩ ?_
    refine xo_val rfl rfl ⟨⟩ ?_
    refine xo_val rfl rfl ⟨⟩ ?_
    first | refine xo_val rfl (a_ix_mapN rfl rfl rfl rfl rfl rfl (by assumption)) ⟨⟩ ?_ | refine xo_val rfl (a_ix_ps rfl rfl rfl rfl rfl rfl (by omega) (by assumption)) ⟨⟩ ?_ | refine xo_val rfl (a_ixs rfl rfl rfl rfl rfl (by omega)) ⟨⟩ ?_ | refine xo_val rfl (a_ixa rfl rfl rfl rfl rfl (by omega)) ⟨⟩ ?_
    first | refine xo_val rfl (a_loads_pp rfl rfl rfl rfl) ⟨⟩ ?_ | refine xo_val rfl (a_loads rfl rfl rfl (cells_of (by repeat' first | assumption | exact AH.get_push_new _ _ | exact AH.get_push_at (by first | (simp only [AH.n_push, AH.n_set]; done) | (simp only [AH.n_push, AH.n_set]; rfl)) | refine AH.get_push_old ?_ _ | apply get_same | refine get_other ?_ (by first | assumption | omega | (simp only [AH.n_push, AH.n_set]; omega) | (dsimp only; omega) | (dsimp only; simp only [AH.n_push, AH.n_set]; omega)) | refine Le.get (by assumption) ?_) rfl rfl rfl)) ⟨⟩ ?_
    refine xo_call rfl rfl (xo_pure (count_ok a x ha) fun h2 hle2 => ⟨⟨fun _ => a_loads_pp rfl rfl rfl rfl, trivial⟩, ?_⟩)
    refine xo_call rfl rfl (xo_pure (count_ok b x hb) fun h3 hle3 => ⟨⟨⟩, ?_⟩)
    first | refine xo_val rfl (a_bin rfl rfl (bin_neq _ _ _ _ _)) ⟨⟩ ?_ | refine xo_val rfl rfl ⟨⟩ ?_
    refine xo_nil (t_norm ?_)
    refine w_cond rfl (fun hne => ?_) (fun _ => w_skip (b_norm (t_norm ?_)))
    ·
      refine w_seq (w_region ?_)
      refine xo_val rfl rfl ⟨⟩ ?_
      refine xo_nil (t_norm ?_)
      exact w_ret (ret_of rfl (hQ _ _ ((hle.trans hle2).trans hle3) ⟨_, rfl, fun e => by have := e.count_eq x; simp [this] at hne⟩))
    refine w_region ?_
    refine xo_val rfl rfl ⟨⟩ ?_
    refine xo_val rfl (a_bin rfl rfl (bin_add64 _ _ _ _ (by omega))) ⟨⟩ ?_
    refine xo_val rfl rfl ⟨⟩ ?_
    refine xo_nil ?_
    exact ⟨N - 1, by omega, i + 1, by omega, (hle.trans hle2).trans hle3, rfl, rfl, rfl⟩
  ·
    refine w_seq (w_region ?_)
    refine xo_val rfl rfl ⟨⟩ ?_
    refine xo_nil (t_norm ?_)
    exact w_ret (ret_of rfl (hQ _ _ hle ⟨_, rfl, fun _ => rfl⟩))
end Go.AI.Q
