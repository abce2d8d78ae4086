/-
  THE QUEUE'S LAWS: what answers and refs are held against one another. (Own work; steps printed by wip/gen/walk.py.)
-/
import Derived.Test.YtkabedbkkbijhaaB14
namespace Go.AI.Q
open Go Go.AI Go.Proofs
attribute [local irreducible] xOps xw
/-- What two things that are the same come to. -/
def Tells (f : FuncId) (args : List Value) (P : Value → Prop) : Prop := ∀ h Q, (∀ h' r, Le h h' → P r → Q (.ret r) h') → C f args h Q
theorem row_tail {a b : List Int} {fr : Fr} {h1 : AH} {Q : AO → AH → Prop} (ha : a.length ≤ 1000000000) (hb : b.length ≤ 1000000000) (f0 : fr 0 = intsV a) (f1 : fr 1 = intsV b) (hQ : ∀ r : Int, (a = b → r = 0) → Q (.ret (.int .i64 r)) h1) :
    xw tab C Y (XC.seq (XC.seq (XC.region x36_8) (XC.cond (Operand.tmp 40) ((XC.region x36_9).seq XC.ret) XC.skip)) (XC.seq (XC.seq (XC.region x36_10) (XC.cond (Operand.tmp 45) ((XC.region x36_11).seq XC.ret) XC.skip)) ((XC.region x36_12).seq XC.ret))) fr h1 (retQ tab [ResultVar.tmp 4] Q) := by
  rw [← fr_fix f0, ← fr_fix f1]
  refine w_seq ?_
  refine w_seq (w_region ?_)
  refine xo_val rfl rfl ⟨⟩ ?_
  first | refine xo_val rfl (a_len_map rfl rfl rfl rfl rfl rfl) ⟨⟩ ?_ | refine xo_val rfl (a_len_ps rfl rfl rfl rfl rfl rfl) ⟨⟩ ?_ | refine xo_val rfl rfl ⟨⟩ ?_
  refine xo_val rfl rfl ⟨⟩ ?_
  first | refine xo_val rfl (a_len_map rfl rfl rfl rfl rfl rfl) ⟨⟩ ?_ | refine xo_val rfl (a_len_ps rfl rfl rfl rfl rfl rfl) ⟨⟩ ?_ | refine xo_val rfl rfl ⟨⟩ ?_
  refine xo_val rfl (a_bin rfl rfl (bin_lss _ _ _ _ _)) ⟨⟩ ?_
  refine xo_nil (t_norm ?_)
  refine w_cond rfl (fun hlt => ?_) (fun _ => w_skip (t_norm ?_))
  ·
    refine w_seq (w_region ?_)
    refine xo_val rfl rfl ⟨⟩ ?_
    refine xo_nil (t_norm ?_)
    exact w_ret (t_ret (ret_of rfl (hQ _ fun e => by subst e; simp at hlt)))
  refine w_seq ?_
  refine w_seq (w_region ?_)
  refine xo_val rfl rfl ⟨⟩ ?_
  first | refine xo_val rfl (a_len_map rfl rfl rfl rfl rfl rfl) ⟨⟩ ?_ | refine xo_val rfl (a_len_ps rfl rfl rfl rfl rfl rfl) ⟨⟩ ?_ | refine xo_val rfl rfl ⟨⟩ ?_
  refine xo_val rfl rfl ⟨⟩ ?_
  first | refine xo_val rfl (a_len_map rfl rfl rfl rfl rfl rfl) ⟨⟩ ?_ | refine xo_val rfl (a_len_ps rfl rfl rfl rfl rfl rfl) ⟨⟩ ?_ | refine xo_val rfl rfl ⟨⟩ ?_
  refine xo_val rfl (a_bin rfl rfl (bin_gtr _ _ _ _ _)) ⟨⟩ ?_
  refine xo_nil (t_norm ?_)
  refine w_cond rfl (fun hlt => ?_) (fun _ => w_skip (t_norm ?_))
  ·
    refine w_seq (w_region ?_)
    refine xo_val rfl rfl ⟨⟩ ?_
    refine xo_nil (t_norm ?_)
    exact w_ret (t_ret (ret_of rfl (hQ _ fun e => by subst e; simp at hlt)))
  refine w_seq (w_region ?_)
  refine xo_val rfl rfl ⟨⟩ ?_
  refine xo_nil (t_norm ?_)
  exact w_ret (ret_of rfl (hQ _ fun _ => rfl))
theorem row_ok (a b : List Int) (ha : a.length ≤ 1000000000) (hb : b.length ≤ 1000000000) : Tells 36 [intsV a, intsV b] fun r => ∃ n : Int, r = .int .i64 n ∧ (a = b → n = 0) := by
  intro h Q hQ
  refine run_36 rfl ?_
  refine w_seq (w_region ?_)
  refine xo_val rfl rfl ⟨⟩ ?_
  refine xo_nil (t_norm ?_)
  refine w_seq ?_
  refine w_seq (w_region ?_)
  refine xo_val rfl rfl ⟨⟩ ?_
  refine xo_nil (t_norm ?_)
  refine w_block (w_loop (fun N fr h' => ∃ i : Nat, N + i = a.length ∧ Le h h' ∧ fr 0 = intsV a ∧ fr 1 = intsV b ∧ fr 5 = .int .i64 i) a.length ?_ ?_)
  · exact ⟨0, rfl, Le.refl _, rfl, rfl, rfl⟩
  rintro N fr h1 ⟨i, hN, hle, f0, f1, f5⟩
  rw [← fr_fix f0, ← fr_fix f1, ← fr_fix f5]
  refine w_seq ?_
  refine w_seq (w_region ?_)
  refine xo_val rfl rfl ⟨⟩ ?_
  refine xo_val rfl rfl ⟨⟩ ?_
  first | refine xo_val rfl (a_len_map rfl rfl rfl rfl rfl rfl) ⟨⟩ ?_ | refine xo_val rfl (a_len_ps rfl rfl rfl rfl rfl rfl) ⟨⟩ ?_ | refine xo_val rfl rfl ⟨⟩ ?_
  refine xo_val rfl (a_bin rfl rfl (bin_lss _ _ _ _ _)) ⟨⟩ ?_
  cases hia : decide ((i : Int) < a.length) with
  | false =>
    refine xo_val rfl rfl ⟨⟩ ?_
    first | refine xo_skip (want_no rfl (by first | rfl | assumption)) ?_ | refine xo_skip rfl ?_ | refine xo_val (want_if rfl (by first | rfl | assumption)) rfl ⟨⟩ ?_
    first | refine xo_skip (want_no rfl (by first | rfl | assumption)) ?_ | refine xo_skip rfl ?_ | refine xo_val (want_if rfl (by first | rfl | assumption)) rfl ⟨⟩ ?_
    first | refine xo_skip (want_no rfl (by first | rfl | assumption)) ?_ | refine xo_skip rfl ?_ | refine xo_val (want_if rfl (by first | rfl | assumption)) (a_len_map rfl rfl rfl rfl rfl rfl) ⟨⟩ ?_ | refine xo_val (want_if rfl (by first | rfl | assumption)) (a_len_ps rfl rfl rfl rfl rfl rfl) ⟨⟩ ?_ | refine xo_val (want_if rfl (by first | rfl | assumption)) rfl ⟨⟩ ?_
    first | refine xo_skip (want_no rfl (by first | rfl | assumption)) ?_ | refine xo_skip rfl ?_ | refine xo_val (want_if rfl (by first | rfl | assumption)) (a_bin rfl rfl (bin_lss _ _ _ _ _)) ⟨⟩ ?_
    first | refine xo_val rfl (a_pick_t rfl (by first | rfl | assumption) rfl) ⟨⟩ ?_ | refine xo_val rfl (a_pick_f rfl (by first | rfl | assumption) rfl) ⟨⟩ ?_
    refine xo_nil (t_norm (w_cond rfl (fun e => by cases e) (fun _ => w_exit (t_exit (b_here (id := 0) (t_norm ?_))))))
    exact row_tail ha hb rfl rfl fun r hr => hQ _ _ hle ⟨r, rfl, hr⟩
  | true =>
    refine xo_val rfl rfl ⟨⟩ ?_
    first | refine xo_skip (want_no rfl (by first | rfl | assumption)) ?_ | refine xo_skip rfl ?_ | refine xo_val (want_if rfl (by first | rfl | assumption)) rfl ⟨⟩ ?_
    first | refine xo_skip (want_no rfl (by first | rfl | assumption)) ?_ | refine xo_skip rfl ?_ | refine xo_val (want_if rfl (by first | rfl | assumption)) rfl ⟨⟩ ?_
    first | refine xo_skip (want_no rfl (by first | rfl | assumption)) ?_ | refine xo_skip rfl ?_ | refine xo_val (want_if rfl (by first | rfl | assumption)) (a_len_map rfl rfl rfl rfl rfl rfl) ⟨⟩ ?_ | refine xo_val (want_if rfl (by first | rfl | assumption)) (a_len_ps rfl rfl rfl rfl rfl rfl) ⟨⟩ ?_ | refine xo_val (want_if rfl (by first | rfl | assumption)) rfl ⟨⟩ ?_
    first | refine xo_skip (want_no rfl (by first | rfl | assumption)) ?_ | refine xo_skip rfl ?_ | refine xo_val (want_if rfl (by first | rfl | assumption)) (a_bin rfl rfl (bin_lss _ _ _ _ _)) ⟨⟩ ?_
    first | refine xo_val rfl (a_pick_t rfl (by first | rfl | assumption) rfl) ⟨⟩ ?_ | refine xo_val rfl (a_pick_f rfl (by first | rfl | assumption) rfl) ⟨⟩ ?_
    have hia' := of_decide_eq_true hia
    refine xo_nil (t_norm (w_cond rfl (fun hib => w_skip (t_norm ?_)) (fun hib => w_exit (t_exit (b_here (id := 0) (t_norm ?_))))))
    · have hib' : (i : Int) < b.length := of_decide_eq_true hib
      obtain ⟨x, hx⟩ : ∃ x, a[i]? = some x := ⟨_, List.getElem?_eq_getElem (by omega)⟩
      obtain ⟨y, hy⟩ : ∃ y, b[i]? = some y := ⟨_, List.getElem?_eq_getElem (by omega)⟩
      have hxy : a = b → x = y := fun e => by subst e; rw [hx] at hy; cases hy; rfl
      refine w_seq (w_block ?_)
      refine w_seq ?_
      refine w_seq (w_region ?_)
      refine xo_val rfl rfl ⟨⟩ ?_
      refine xo_val rfl rfl ⟨⟩ ?_
      first | refine xo_val rfl (a_ix_mapN rfl rfl rfl rfl rfl rfl (by assumption)) ⟨⟩ ?_ | refine xo_val rfl (a_ix_ps rfl rfl rfl rfl rfl rfl (by omega) (by assumption)) ⟨⟩ ?_ | refine xo_val rfl (a_ixs rfl rfl rfl rfl rfl (by omega)) ⟨⟩ ?_ | refine xo_val rfl (a_ixa rfl rfl rfl rfl rfl (by omega)) ⟨⟩ ?_
      first | refine xo_val rfl (a_load_pp rfl rfl rfl rfl) ⟨⟩ ?_ | refine xo_val rfl (a_load rfl rfl rfl (cell_of (by repeat' first | assumption | exact AH.get_push_new _ _ | exact AH.get_push_at (by first | (simp only [AH.n_push, AH.n_set]; done) | (simp only [AH.n_push, AH.n_set]; rfl)) | refine AH.get_push_old ?_ _ | apply get_same | refine get_other ?_ (by first | assumption | omega | (simp only [AH.n_push, AH.n_set]; omega) | (dsimp only; omega) | (dsimp only; simp only [AH.n_push, AH.n_set]; omega)) | refine Le.get (by assumption) ?_) rfl rfl)) ⟨⟩ ?_
      refine xo_val rfl rfl ⟨⟩ ?_
      refine xo_val rfl rfl ⟨⟩ ?_
      first | refine xo_val rfl (a_ix_mapN rfl rfl rfl rfl rfl rfl (by assumption)) ⟨⟩ ?_ | refine xo_val rfl (a_ix_ps rfl rfl rfl rfl rfl rfl (by omega) (by assumption)) ⟨⟩ ?_ | refine xo_val rfl (a_ixs rfl rfl rfl rfl rfl (by omega)) ⟨⟩ ?_ | refine xo_val rfl (a_ixa rfl rfl rfl rfl rfl (by omega)) ⟨⟩ ?_
      first | refine xo_val rfl (a_load_pp rfl rfl rfl rfl) ⟨⟩ ?_ | refine xo_val rfl (a_load rfl rfl rfl (cell_of (by repeat' first | assumption | exact AH.get_push_new _ _ | exact AH.get_push_at (by first | (simp only [AH.n_push, AH.n_set]; done) | (simp only [AH.n_push, AH.n_set]; rfl)) | refine AH.get_push_old ?_ _ | apply get_same | refine get_other ?_ (by first | assumption | omega | (simp only [AH.n_push, AH.n_set]; omega) | (dsimp only; omega) | (dsimp only; simp only [AH.n_push, AH.n_set]; omega)) | refine Le.get (by assumption) ?_) rfl rfl)) ⟨⟩ ?_
      refine xo_val rfl (a_bin rfl rfl (bin_lss _ _ _ _ _)) ⟨⟩ ?_
      refine xo_nil (t_norm ?_)
      refine w_cond rfl (fun hlt => ?_) (fun _ => w_skip (t_norm ?_))
      ·
        refine w_seq (w_region ?_)
        refine xo_val rfl rfl ⟨⟩ ?_
        refine xo_nil (t_norm ?_)
        exact w_ret (ret_of rfl (hQ _ _ hle ⟨_, rfl, fun e => by have := of_decide_eq_true hlt; have := hxy e; omega⟩))
      refine w_seq (w_region ?_)
      refine xo_val rfl rfl ⟨⟩ ?_
      refine xo_val rfl rfl ⟨⟩ ?_
      first | refine xo_val rfl (a_ix_mapN rfl rfl rfl rfl rfl rfl (by assumption)) ⟨⟩ ?_ | refine xo_val rfl (a_ix_ps rfl rfl rfl rfl rfl rfl (by omega) (by assumption)) ⟨⟩ ?_ | refine xo_val rfl (a_ixs rfl rfl rfl rfl rfl (by omega)) ⟨⟩ ?_ | refine xo_val rfl (a_ixa rfl rfl rfl rfl rfl (by omega)) ⟨⟩ ?_
      first | refine xo_val rfl (a_load_pp rfl rfl rfl rfl) ⟨⟩ ?_ | refine xo_val rfl (a_load rfl rfl rfl (cell_of (by repeat' first | assumption | exact AH.get_push_new _ _ | exact AH.get_push_at (by first | (simp only [AH.n_push, AH.n_set]; done) | (simp only [AH.n_push, AH.n_set]; rfl)) | refine AH.get_push_old ?_ _ | apply get_same | refine get_other ?_ (by first | assumption | omega | (simp only [AH.n_push, AH.n_set]; omega) | (dsimp only; omega) | (dsimp only; simp only [AH.n_push, AH.n_set]; omega)) | refine Le.get (by assumption) ?_) rfl rfl)) ⟨⟩ ?_
      refine xo_val rfl rfl ⟨⟩ ?_
      refine xo_val rfl rfl ⟨⟩ ?_
      first | refine xo_val rfl (a_ix_mapN rfl rfl rfl rfl rfl rfl (by assumption)) ⟨⟩ ?_ | refine xo_val rfl (a_ix_ps rfl rfl rfl rfl rfl rfl (by omega) (by assumption)) ⟨⟩ ?_ | refine xo_val rfl (a_ixs rfl rfl rfl rfl rfl (by omega)) ⟨⟩ ?_ | refine xo_val rfl (a_ixa rfl rfl rfl rfl rfl (by omega)) ⟨⟩ ?_
      first | refine xo_val rfl (a_load_pp rfl rfl rfl rfl) ⟨⟩ ?_ | refine xo_val rfl (a_load rfl rfl rfl (cell_of (by repeat' first | assumption | exact AH.get_push_new _ _ | exact AH.get_push_at (by first | (simp only [AH.n_push, AH.n_set]; done) | (simp only [AH.n_push, AH.n_set]; rfl)) | refine AH.get_push_old ?_ _ | apply get_same | refine get_other ?_ (by first | assumption | omega | (simp only [AH.n_push, AH.n_set]; omega) | (dsimp only; omega) | (dsimp only; simp only [AH.n_push, AH.n_set]; omega)) | refine Le.get (by assumption) ?_) rfl rfl)) ⟨⟩ ?_
      refine xo_val rfl (a_bin rfl rfl (bin_gtr _ _ _ _ _)) ⟨⟩ ?_
      refine xo_nil (t_norm ?_)
      refine w_cond rfl (fun hlt => ?_) (fun _ => w_skip (b_norm (t_norm ?_)))
      ·
        refine w_seq (w_region ?_)
        refine xo_val rfl rfl ⟨⟩ ?_
        refine xo_nil (t_norm ?_)
        exact w_ret (ret_of rfl (hQ _ _ hle ⟨_, rfl, fun e => by have := of_decide_eq_true hlt; have := hxy e; omega⟩))
      refine w_region ?_
      refine xo_val rfl rfl ⟨⟩ ?_
      refine xo_val rfl (a_bin rfl rfl (bin_add64 _ _ _ _ (by omega))) ⟨⟩ ?_
      refine xo_val rfl rfl ⟨⟩ ?_
      refine xo_nil ?_
      exact ⟨N - 1, by omega, i + 1, by omega, hle, rfl, rfl, rfl⟩
    · exact row_tail ha hb rfl rfl fun r hr => hQ _ _ hle ⟨r, rfl, hr⟩
def Small (a : List (List Int)) : Prop := a.length ≤ 1000000000 ∧ ∀ l ∈ a, l.length ≤ 1000000000
theorem cmp_tail {a b : List (List Int)} {fr : Fr} {h1 : AH} {Q : AO → AH → Prop} (ha : a.length ≤ 1000000000) (hb : b.length ≤ 1000000000) (f0 : fr 0 = setsV a) (f1 : fr 1 = setsV b) (hQ : ∀ r : Int, (a = b → r = 0) → Q (.ret (.int .i64 r)) h1) :
    xw tab C Y (XC.seq (XC.seq (XC.region x31_7) (XC.cond (Operand.tmp 35) ((XC.region x31_8).seq XC.ret) XC.skip)) (XC.seq (XC.seq (XC.region x31_9) (XC.cond (Operand.tmp 40) ((XC.region x31_10).seq XC.ret) XC.skip)) ((XC.region x31_11).seq XC.ret))) fr h1 (retQ tab [ResultVar.tmp 4] Q) := by
  rw [← fr_fix f0, ← fr_fix f1]
  refine w_seq ?_
  refine w_seq (w_region ?_)
  refine xo_val rfl rfl ⟨⟩ ?_
  first | refine xo_val rfl (a_len_map rfl rfl rfl rfl rfl rfl) ⟨⟩ ?_ | refine xo_val rfl (a_len_ps rfl rfl rfl rfl rfl rfl) ⟨⟩ ?_ | refine xo_val rfl rfl ⟨⟩ ?_
  refine xo_val rfl rfl ⟨⟩ ?_
  first | refine xo_val rfl (a_len_map rfl rfl rfl rfl rfl rfl) ⟨⟩ ?_ | refine xo_val rfl (a_len_ps rfl rfl rfl rfl rfl rfl) ⟨⟩ ?_ | refine xo_val rfl rfl ⟨⟩ ?_
  refine xo_val rfl (a_bin rfl rfl (bin_lss _ _ _ _ _)) ⟨⟩ ?_
  refine xo_nil (t_norm ?_)
  refine w_cond rfl (fun hlt => ?_) (fun _ => w_skip (t_norm ?_))
  ·
    refine w_seq (w_region ?_)
    refine xo_val rfl rfl ⟨⟩ ?_
    refine xo_nil (t_norm ?_)
    exact w_ret (ret_of rfl (hQ _ fun e => by subst e; simp at hlt))
  refine w_seq ?_
  refine w_seq (w_region ?_)
  refine xo_val rfl rfl ⟨⟩ ?_
  first | refine xo_val rfl (a_len_map rfl rfl rfl rfl rfl rfl) ⟨⟩ ?_ | refine xo_val rfl (a_len_ps rfl rfl rfl rfl rfl rfl) ⟨⟩ ?_ | refine xo_val rfl rfl ⟨⟩ ?_
  refine xo_val rfl rfl ⟨⟩ ?_
  first | refine xo_val rfl (a_len_map rfl rfl rfl rfl rfl rfl) ⟨⟩ ?_ | refine xo_val rfl (a_len_ps rfl rfl rfl rfl rfl rfl) ⟨⟩ ?_ | refine xo_val rfl rfl ⟨⟩ ?_
  refine xo_val rfl (a_bin rfl rfl (bin_gtr _ _ _ _ _)) ⟨⟩ ?_
  refine xo_nil (t_norm ?_)
  refine w_cond rfl (fun hlt => ?_) (fun _ => w_skip (t_norm ?_))
  ·
    refine w_seq (w_region ?_)
    refine xo_val rfl rfl ⟨⟩ ?_
    refine xo_nil (t_norm ?_)
    exact w_ret (ret_of rfl (hQ _ fun e => by subst e; simp at hlt))
  refine w_seq (w_region ?_)
  refine xo_val rfl rfl ⟨⟩ ?_
  refine xo_nil (t_norm ?_)
  exact w_ret (ret_of rfl (hQ _ fun _ => rfl))
theorem cmp_ok (a b : List (List Int)) (ha : Small a) (hb : Small b) : Tells 31 [setsV a, setsV b] fun r => ∃ n : Int, r = .int .i64 n ∧ (a = b → n = 0) := by
  intro h Q hQ
  have hal := ha.1
  have hbl := hb.1
  refine run_31 rfl ?_
  refine w_seq (w_region ?_)
  refine xo_val rfl rfl ⟨⟩ ?_
  refine xo_nil (t_norm ?_)
  refine w_seq ?_
  refine w_seq (w_region ?_)
  refine xo_val rfl rfl ⟨⟩ ?_
  refine xo_nil (t_norm ?_)
  refine w_block (w_loop (fun N fr h' => ∃ i : Nat, N + i = a.length ∧ Le h h' ∧ fr 0 = setsV a ∧ fr 1 = setsV b ∧ fr 5 = .int .i64 i) a.length ?_ ?_)
  · exact ⟨0, rfl, Le.refl _, rfl, rfl, rfl⟩
  rintro N fr h1 ⟨i, hN, hle, f0, f1, f5⟩
  rw [← fr_fix f0, ← fr_fix f1, ← fr_fix f5]
  refine w_seq ?_
  refine w_seq (w_region ?_)
  refine xo_val rfl rfl ⟨⟩ ?_
  refine xo_val rfl rfl ⟨⟩ ?_
  first | refine xo_val rfl (a_len_map rfl rfl rfl rfl rfl rfl) ⟨⟩ ?_ | refine xo_val rfl (a_len_ps rfl rfl rfl rfl rfl rfl) ⟨⟩ ?_ | refine xo_val rfl rfl ⟨⟩ ?_
  refine xo_val rfl (a_bin rfl rfl (bin_lss _ _ _ _ _)) ⟨⟩ ?_
  cases hia : decide ((i : Int) < a.length) with
  | false =>
    refine xo_val rfl rfl ⟨⟩ ?_
    first | refine xo_skip (want_no rfl (by first | rfl | assumption)) ?_ | refine xo_skip rfl ?_ | refine xo_val (want_if rfl (by first | rfl | assumption)) rfl ⟨⟩ ?_
    first | refine xo_skip (want_no rfl (by first | rfl | assumption)) ?_ | refine xo_skip rfl ?_ | refine xo_val (want_if rfl (by first | rfl | assumption)) rfl ⟨⟩ ?_
    first | refine xo_skip (want_no rfl (by first | rfl | assumption)) ?_ | refine xo_skip rfl ?_ | refine xo_val (want_if rfl (by first | rfl | assumption)) (a_len_map rfl rfl rfl rfl rfl rfl) ⟨⟩ ?_ | refine xo_val (want_if rfl (by first | rfl | assumption)) (a_len_ps rfl rfl rfl rfl rfl rfl) ⟨⟩ ?_ | refine xo_val (want_if rfl (by first | rfl | assumption)) rfl ⟨⟩ ?_
    first | refine xo_skip (want_no rfl (by first | rfl | assumption)) ?_ | refine xo_skip rfl ?_ | refine xo_val (want_if rfl (by first | rfl | assumption)) (a_bin rfl rfl (bin_lss _ _ _ _ _)) ⟨⟩ ?_
    first | refine xo_val rfl (a_pick_t rfl (by first | rfl | assumption) rfl) ⟨⟩ ?_ | refine xo_val rfl (a_pick_f rfl (by first | rfl | assumption) rfl) ⟨⟩ ?_
    refine xo_nil (t_norm (w_cond rfl (fun e => by cases e) (fun _ => w_exit (t_exit (b_here (id := 0) (t_norm ?_))))))
    exact cmp_tail hal hbl rfl rfl fun r hr => hQ _ _ hle ⟨r, rfl, hr⟩
  | true =>
    refine xo_val rfl rfl ⟨⟩ ?_
    first | refine xo_skip (want_no rfl (by first | rfl | assumption)) ?_ | refine xo_skip rfl ?_ | refine xo_val (want_if rfl (by first | rfl | assumption)) rfl ⟨⟩ ?_
    first | refine xo_skip (want_no rfl (by first | rfl | assumption)) ?_ | refine xo_skip rfl ?_ | refine xo_val (want_if rfl (by first | rfl | assumption)) rfl ⟨⟩ ?_
    first | refine xo_skip (want_no rfl (by first | rfl | assumption)) ?_ | refine xo_skip rfl ?_ | refine xo_val (want_if rfl (by first | rfl | assumption)) (a_len_map rfl rfl rfl rfl rfl rfl) ⟨⟩ ?_ | refine xo_val (want_if rfl (by first | rfl | assumption)) (a_len_ps rfl rfl rfl rfl rfl rfl) ⟨⟩ ?_ | refine xo_val (want_if rfl (by first | rfl | assumption)) rfl ⟨⟩ ?_
    first | refine xo_skip (want_no rfl (by first | rfl | assumption)) ?_ | refine xo_skip rfl ?_ | refine xo_val (want_if rfl (by first | rfl | assumption)) (a_bin rfl rfl (bin_lss _ _ _ _ _)) ⟨⟩ ?_
    first | refine xo_val rfl (a_pick_t rfl (by first | rfl | assumption) rfl) ⟨⟩ ?_ | refine xo_val rfl (a_pick_f rfl (by first | rfl | assumption) rfl) ⟨⟩ ?_
    have hia' := of_decide_eq_true hia
    refine xo_nil (t_norm (w_cond rfl (fun hib => w_skip (t_norm ?_)) (fun hib => w_exit (t_exit (b_here (id := 0) (t_norm ?_))))))
    · have hib' : (i : Int) < b.length := of_decide_eq_true hib
      obtain ⟨x, hx⟩ : ∃ x, a[i]? = some x := ⟨_, List.getElem?_eq_getElem (by omega)⟩
      obtain ⟨y, hy⟩ : ∃ y, b[i]? = some y := ⟨_, List.getElem?_eq_getElem (by omega)⟩
      have hxy : a = b → x = y := fun e => by subst e; rw [hx] at hy; cases hy; rfl
      refine w_seq (w_block ?_)
      refine w_seq (w_region ?_)
      refine xo_val rfl rfl ⟨⟩ ?_
      refine xo_val rfl rfl ⟨⟩ ?_
      first | refine xo_val rfl (a_ix_mapN rfl rfl rfl rfl rfl rfl (by assumption)) ⟨⟩ ?_ | refine xo_val rfl (a_ix_ps rfl rfl rfl rfl rfl rfl (by omega) (by assumption)) ⟨⟩ ?_ | refine xo_val rfl (a_ixs rfl rfl rfl rfl rfl (by omega)) ⟨⟩ ?_ | refine xo_val rfl (a_ixa rfl rfl rfl rfl rfl (by omega)) ⟨⟩ ?_
      first | refine xo_val rfl (a_load_pp rfl rfl rfl rfl) ⟨⟩ ?_ | refine xo_val rfl (a_load rfl rfl rfl (cell_of (by repeat' first | assumption | exact AH.get_push_new _ _ | exact AH.get_push_at (by first | (simp only [AH.n_push, AH.n_set]; done) | (simp only [AH.n_push, AH.n_set]; rfl)) | refine AH.get_push_old ?_ _ | apply get_same | refine get_other ?_ (by first | assumption | omega | (simp only [AH.n_push, AH.n_set]; omega) | (dsimp only; omega) | (dsimp only; simp only [AH.n_push, AH.n_set]; omega)) | refine Le.get (by assumption) ?_) rfl rfl)) ⟨⟩ ?_
      refine xo_val rfl rfl ⟨⟩ ?_
      refine xo_val rfl rfl ⟨⟩ ?_
      first | refine xo_val rfl (a_ix_mapN rfl rfl rfl rfl rfl rfl (by assumption)) ⟨⟩ ?_ | refine xo_val rfl (a_ix_ps rfl rfl rfl rfl rfl rfl (by omega) (by assumption)) ⟨⟩ ?_ | refine xo_val rfl (a_ixs rfl rfl rfl rfl rfl (by omega)) ⟨⟩ ?_ | refine xo_val rfl (a_ixa rfl rfl rfl rfl rfl (by omega)) ⟨⟩ ?_
      first | refine xo_val rfl (a_load_pp rfl rfl rfl rfl) ⟨⟩ ?_ | refine xo_val rfl (a_load rfl rfl rfl (cell_of (by repeat' first | assumption | exact AH.get_push_new _ _ | exact AH.get_push_at (by first | (simp only [AH.n_push, AH.n_set]; done) | (simp only [AH.n_push, AH.n_set]; rfl)) | refine AH.get_push_old ?_ _ | apply get_same | refine get_other ?_ (by first | assumption | omega | (simp only [AH.n_push, AH.n_set]; omega) | (dsimp only; omega) | (dsimp only; simp only [AH.n_push, AH.n_set]; omega)) | refine Le.get (by assumption) ?_) rfl rfl)) ⟨⟩ ?_
      refine xo_call rfl rfl (row_ok x y (ha.2 x (List.mem_of_getElem? hx)) (hb.2 y (List.mem_of_getElem? hy)) _ _ fun h2 r hle2 ⟨n, hr, hn⟩ => ⟨⟨⟩, ?_⟩)
      subst hr
      refine xo_val rfl rfl ⟨⟩ ?_
      refine xo_nil (t_norm ?_)
      refine w_seq (w_region ?_)
      refine xo_val rfl rfl ⟨⟩ ?_
      first | refine xo_val rfl (a_bin rfl rfl (bin_neq _ _ _ _ _)) ⟨⟩ ?_ | refine xo_val rfl rfl ⟨⟩ ?_
      refine xo_nil (t_norm ?_)
      refine w_cond rfl (fun hne => ?_) (fun _ => w_skip (b_norm (t_norm ?_)))
      ·
        refine w_seq (w_region ?_)
        refine xo_val rfl rfl ⟨⟩ ?_
        refine xo_val rfl rfl ⟨⟩ ?_
        refine xo_nil (t_norm ?_)
        exact w_ret (ret_of rfl (hQ _ _ (hle.trans hle2) ⟨_, rfl, fun e => by have := hn (hxy e); subst this; simp at hne⟩))
      refine w_region ?_
      refine xo_val rfl rfl ⟨⟩ ?_
      refine xo_val rfl (a_bin rfl rfl (bin_add64 _ _ _ _ (by omega))) ⟨⟩ ?_
      refine xo_val rfl rfl ⟨⟩ ?_
      refine xo_nil ?_
      exact ⟨N - 1, by omega, i + 1, by omega, hle.trans hle2, rfl, rfl, rfl⟩
    · exact cmp_tail hal hbl rfl rfl fun r hr => hQ _ _ hle ⟨r, rfl, hr⟩
theorem same_ok (a b : List (List (List Int))) (ha : a.length ≤ 1000000000 ∧ ∀ l ∈ a, Small l) (hb : b.length ≤ 1000000000 ∧ ∀ l ∈ b, Small l) : Tells 24 [matchesV a, matchesV b] fun r => ∃ n : Bool, r = .bool n ∧ (a = b → n = true) := by
  intro h Q hQ
  refine run_24 rfl ?_
  have hal := ha.1
  have hbl := hb.1
  refine w_seq (w_region ?_)
  refine xo_val rfl rfl ⟨⟩ ?_
  refine xo_nil (t_norm ?_)
  refine w_seq ?_
  refine w_seq (w_region ?_)
  refine xo_val rfl rfl ⟨⟩ ?_
  first | refine xo_val rfl (a_len_map rfl rfl rfl rfl rfl rfl) ⟨⟩ ?_ | refine xo_val rfl (a_len_ps rfl rfl rfl rfl rfl rfl) ⟨⟩ ?_ | refine xo_val rfl rfl ⟨⟩ ?_
  refine xo_val rfl rfl ⟨⟩ ?_
  first | refine xo_val rfl (a_len_map rfl rfl rfl rfl rfl rfl) ⟨⟩ ?_ | refine xo_val rfl (a_len_ps rfl rfl rfl rfl rfl rfl) ⟨⟩ ?_ | refine xo_val rfl rfl ⟨⟩ ?_
  first | refine xo_val rfl (a_bin rfl rfl (bin_neq _ _ _ _ _)) ⟨⟩ ?_ | refine xo_val rfl rfl ⟨⟩ ?_
  refine xo_nil (t_norm ?_)
  refine w_cond rfl (fun hne => ?_) (fun heq => w_skip (t_norm ?_))
  ·
    refine w_seq (w_region ?_)
    refine xo_val rfl rfl ⟨⟩ ?_
    refine xo_nil (t_norm ?_)
    exact w_ret (ret_of rfl (hQ _ _ (Le.refl _) ⟨_, rfl, fun e => by subst e; simp at hne⟩))
  have hlen : a.length = b.length := by simp at heq; omega
  refine w_seq ?_
  refine w_seq (w_region ?_)
  refine xo_val rfl rfl ⟨⟩ ?_
  refine xo_nil (t_norm ?_)
  refine w_block (w_loop (fun N fr h' => ∃ i : Nat, N + i = a.length ∧ Le h h' ∧ fr 0 = matchesV a ∧ fr 1 = matchesV b ∧ fr 5 = .int .i64 i) a.length ?_ ?_)
  · exact ⟨0, rfl, Le.refl _, rfl, rfl, rfl⟩
  rintro N fr h1 ⟨i, hN, hle, f0, f1, f5⟩
  rw [← fr_fix f0, ← fr_fix f1, ← fr_fix f5]
  refine w_seq ?_
  refine w_seq (w_region ?_)
  refine xo_val rfl rfl ⟨⟩ ?_
  refine xo_val rfl rfl ⟨⟩ ?_
  first | refine xo_val rfl (a_len_map rfl rfl rfl rfl rfl rfl) ⟨⟩ ?_ | refine xo_val rfl (a_len_ps rfl rfl rfl rfl rfl rfl) ⟨⟩ ?_ | refine xo_val rfl rfl ⟨⟩ ?_
  refine xo_val rfl (a_bin rfl rfl (bin_lss _ _ _ _ _)) ⟨⟩ ?_
  refine xo_nil (t_norm ?_)
  refine w_cond rfl (fun hlt => w_skip (t_norm ?_)) (fun _ => w_exit (t_exit (b_here (id := 0) (t_norm ?_))))
  · have hlt' : (i : Int) < a.length := of_decide_eq_true hlt
    obtain ⟨x, hx⟩ : ∃ x, a[i]? = some x := ⟨_, List.getElem?_eq_getElem (by omega)⟩
    obtain ⟨y, hy⟩ : ∃ y, b[i]? = some y := ⟨_, List.getElem?_eq_getElem (by omega)⟩
    have hxy : a = b → x = y := fun e => by subst e; rw [hx] at hy; cases hy; rfl
    refine w_seq (w_block ?_)
    refine w_seq (w_region ?_)
    refine xo_val rfl rfl ⟨⟩ ?_
    refine xo_val rfl rfl ⟨⟩ ?_
    first | refine xo_val rfl (a_ix_mapN rfl rfl rfl rfl rfl rfl (by assumption)) ⟨⟩ ?_ | refine xo_val rfl (a_ix_ps rfl rfl rfl rfl rfl rfl (by omega) (by assumption)) ⟨⟩ ?_ | refine xo_val rfl (a_ixs rfl rfl rfl rfl rfl (by omega)) ⟨⟩ ?_ | refine xo_val rfl (a_ixa rfl rfl rfl rfl rfl (by omega)) ⟨⟩ ?_
    first | refine xo_val rfl (a_load_pp rfl rfl rfl rfl) ⟨⟩ ?_ | refine xo_val rfl (a_load rfl rfl rfl (cell_of (by repeat' first | assumption | exact AH.get_push_new _ _ | exact AH.get_push_at (by first | (simp only [AH.n_push, AH.n_set]; done) | (simp only [AH.n_push, AH.n_set]; rfl)) | refine AH.get_push_old ?_ _ | apply get_same | refine get_other ?_ (by first | assumption | omega | (simp only [AH.n_push, AH.n_set]; omega) | (dsimp only; omega) | (dsimp only; simp only [AH.n_push, AH.n_set]; omega)) | refine Le.get (by assumption) ?_) rfl rfl)) ⟨⟩ ?_
    refine xo_val rfl rfl ⟨⟩ ?_
    refine xo_val rfl rfl ⟨⟩ ?_
    first | refine xo_val rfl (a_ix_mapN rfl rfl rfl rfl rfl rfl (by assumption)) ⟨⟩ ?_ | refine xo_val rfl (a_ix_ps rfl rfl rfl rfl rfl rfl (by omega) (by assumption)) ⟨⟩ ?_ | refine xo_val rfl (a_ixs rfl rfl rfl rfl rfl (by omega)) ⟨⟩ ?_ | refine xo_val rfl (a_ixa rfl rfl rfl rfl rfl (by omega)) ⟨⟩ ?_
    first | refine xo_val rfl (a_load_pp rfl rfl rfl rfl) ⟨⟩ ?_ | refine xo_val rfl (a_load rfl rfl rfl (cell_of (by repeat' first | assumption | exact AH.get_push_new _ _ | exact AH.get_push_at (by first | (simp only [AH.n_push, AH.n_set]; done) | (simp only [AH.n_push, AH.n_set]; rfl)) | refine AH.get_push_old ?_ _ | apply get_same | refine get_other ?_ (by first | assumption | omega | (simp only [AH.n_push, AH.n_set]; omega) | (dsimp only; omega) | (dsimp only; simp only [AH.n_push, AH.n_set]; omega)) | refine Le.get (by assumption) ?_) rfl rfl)) ⟨⟩ ?_
    refine xo_call rfl rfl (cmp_ok x y (ha.2 x (List.mem_of_getElem? hx)) (hb.2 y (List.mem_of_getElem? hy)) _ _ fun h2 r hle2 ⟨n, hr, hn⟩ => ⟨⟨⟩, ?_⟩)
    subst hr
    first | refine xo_val rfl (a_bin rfl rfl (bin_neq _ _ _ _ _)) ⟨⟩ ?_ | refine xo_val rfl rfl ⟨⟩ ?_
    refine xo_nil (t_norm ?_)
    refine w_cond rfl (fun hne => ?_) (fun _ => w_skip (b_norm (t_norm ?_)))
    ·
      refine w_seq (w_region ?_)
      refine xo_val rfl rfl ⟨⟩ ?_
      refine xo_nil (t_norm ?_)
      exact w_ret (ret_of rfl (hQ _ _ (hle.trans hle2) ⟨_, rfl, fun e => by have := hn (hxy e); subst this; simp at hne⟩))
    refine w_region ?_
    refine xo_val rfl rfl ⟨⟩ ?_
    refine xo_val rfl (a_bin rfl rfl (bin_add64 _ _ _ _ (by omega))) ⟨⟩ ?_
    refine xo_val rfl rfl ⟨⟩ ?_
    refine xo_nil ?_
    exact ⟨N - 1, by omega, i + 1, by omega, hle.trans hle2, rfl, rfl, rfl⟩
  ·
    refine w_seq (w_region ?_)
    refine xo_val rfl rfl ⟨⟩ ?_
    refine xo_nil (t_norm ?_)
    exact w_ret (ret_of rfl (hQ _ _ hle ⟨_, rfl, fun _ => rfl⟩))
theorem sameAnswer_ok (e1 n1 e2 n2 : Int) (a b : List (List (List Int))) (ha : a.length ≤ 1000000000 ∧ ∀ l ∈ a, Small l) (hb : b.length ≤ 1000000000 ∧ ∀ l ∈ b, Small l) : Tells 17 [ansV e1 n1 a, ansV e2 n2 b] fun r => ∃ n : Bool, r = .bool n ∧ (e1 = e2 ∧ n1 = n2 ∧ a = b → n = true) := by
  intro h Q hQ
  refine run_17 rfl ?_
  refine w_seq (w_region ?_)
  refine xo_val rfl (a_box rfl rfl) ⟨⟩ ?_
  refine xo_val rfl (a_box rfl rfl) ⟨⟩ ?_
  refine xo_val rfl rfl ⟨⟩ ?_
  refine xo_nil (t_norm ?_)
  refine w_seq (w_region ?_)
  refine xo_val rfl rfl ⟨⟩ ?_
  first | refine xo_val rfl (a_load_pp rfl rfl rfl rfl) ⟨⟩ ?_ | refine xo_val rfl (a_load rfl rfl rfl (cell_of (by repeat' first | assumption | exact AH.get_push_new _ _ | exact AH.get_push_at (by first | (simp only [AH.n_push, AH.n_set]; done) | (simp only [AH.n_push, AH.n_set]; rfl)) | refine AH.get_push_old ?_ _ | apply get_same | refine get_other ?_ (by first | assumption | omega | (simp only [AH.n_push, AH.n_set]; omega) | (dsimp only; omega) | (dsimp only; simp only [AH.n_push, AH.n_set]; omega)) | refine Le.get (by assumption) ?_) rfl rfl)) ⟨⟩ ?_
  refine xo_val rfl rfl ⟨⟩ ?_
  first | refine xo_val rfl (a_load_pp rfl rfl rfl rfl) ⟨⟩ ?_ | refine xo_val rfl (a_load rfl rfl rfl (cell_of (by repeat' first | assumption | exact AH.get_push_new _ _ | exact AH.get_push_at (by first | (simp only [AH.n_push, AH.n_set]; done) | (simp only [AH.n_push, AH.n_set]; rfl)) | refine AH.get_push_old ?_ _ | apply get_same | refine get_other ?_ (by first | assumption | omega | (simp only [AH.n_push, AH.n_set]; omega) | (dsimp only; omega) | (dsimp only; simp only [AH.n_push, AH.n_set]; omega)) | refine Le.get (by assumption) ?_) rfl rfl)) ⟨⟩ ?_
  have hle := ((Le.refl h).push (.row (ansV e1 n1 a).cells.toList true 0)).push (.row (ansV e2 n2 b).cells.toList true 0)
  refine xo_call rfl rfl (same_ok a b ha hb _ _ fun h2 r hle2 ⟨n, hr, hn⟩ => ⟨⟨⟩, ?_⟩)
  subst hr
  have c2 : h2.get h.n = some (.row [.int .i64 e1, .int .i64 n1, matchesV a] true 0) := hle2.get (AH.get_push_old (AH.get_push_new _ _) _)
  have c3 : h2.get (h.n + 1) = some (.row [.int .i64 e2, .int .i64 n2, matchesV b] true 0) := hle2.get (AH.get_push_new _ _)
  refine xo_val rfl rfl ⟨⟩ ?_
  refine xo_nil (t_norm ?_)
  refine w_seq (w_region ?_)
  cases n with
  | false =>
    refine xo_val rfl rfl ⟨⟩ ?_
    refine xo_val rfl rfl ⟨⟩ ?_
    first | refine xo_skip (want_no rfl (by first | rfl | assumption)) ?_ | refine xo_skip rfl ?_ | refine xo_val (want_if rfl (by first | rfl | assumption)) rfl ⟨⟩ ?_
    first | refine xo_skip (want_no rfl (by first | rfl | assumption)) ?_ | refine xo_skip rfl ?_ | refine xo_val (want_if rfl (by first | rfl | assumption)) (a_load_pp rfl rfl rfl rfl) ⟨⟩ ?_ | refine xo_val (want_if rfl (by first | rfl | assumption)) (a_load rfl rfl rfl (cell_of (by repeat' first | assumption | exact AH.get_push_new _ _ | exact AH.get_push_at (by first | (simp only [AH.n_push, AH.n_set]; done) | (simp only [AH.n_push, AH.n_set]; rfl)) | refine AH.get_push_old ?_ _ | apply get_same | refine get_other ?_ (by first | assumption | omega | (simp only [AH.n_push, AH.n_set]; omega) | (dsimp only; omega) | (dsimp only; simp only [AH.n_push, AH.n_set]; omega)) | refine Le.get (by assumption) ?_) rfl rfl)) ⟨⟩ ?_
    first | refine xo_skip (want_no rfl (by first | rfl | assumption)) ?_ | refine xo_skip rfl ?_ | refine xo_val (want_if rfl (by first | rfl | assumption)) rfl ⟨⟩ ?_
    first | refine xo_skip (want_no rfl (by first | rfl | assumption)) ?_ | refine xo_skip rfl ?_ | refine xo_val (want_if rfl (by first | rfl | assumption)) (a_load_pp rfl rfl rfl rfl) ⟨⟩ ?_ | refine xo_val (want_if rfl (by first | rfl | assumption)) (a_load rfl rfl rfl (cell_of (by repeat' first | assumption | exact AH.get_push_new _ _ | exact AH.get_push_at (by first | (simp only [AH.n_push, AH.n_set]; done) | (simp only [AH.n_push, AH.n_set]; rfl)) | refine AH.get_push_old ?_ _ | apply get_same | refine get_other ?_ (by first | assumption | omega | (simp only [AH.n_push, AH.n_set]; omega) | (dsimp only; omega) | (dsimp only; simp only [AH.n_push, AH.n_set]; omega)) | refine Le.get (by assumption) ?_) rfl rfl)) ⟨⟩ ?_
    first | refine xo_skip (want_no rfl (by first | rfl | assumption)) ?_ | refine xo_skip rfl ?_ | refine xo_val (want_if rfl (by first | rfl | assumption)) (a_bin rfl rfl (bin_eql _ _ _ _ _)) ⟨⟩ ?_ | refine xo_val (want_if rfl (by first | rfl | assumption)) rfl ⟨⟩ ?_
    first | refine xo_val rfl (a_pick_t rfl (by first | rfl | assumption) rfl) ⟨⟩ ?_ | refine xo_val rfl (a_pick_f rfl (by first | rfl | assumption) rfl) ⟨⟩ ?_
    refine xo_val rfl rfl ⟨⟩ ?_
    first | refine xo_skip (want_no rfl (by first | rfl | assumption)) ?_ | refine xo_skip rfl ?_ | refine xo_val (want_if rfl (by first | rfl | assumption)) rfl ⟨⟩ ?_
    first | refine xo_skip (want_no rfl (by first | rfl | assumption)) ?_ | refine xo_skip rfl ?_ | refine xo_val (want_if rfl (by first | rfl | assumption)) (a_load_pp rfl rfl rfl rfl) ⟨⟩ ?_ | refine xo_val (want_if rfl (by first | rfl | assumption)) (a_load rfl rfl rfl (cell_of (by repeat' first | assumption | exact AH.get_push_new _ _ | exact AH.get_push_at (by first | (simp only [AH.n_push, AH.n_set]; done) | (simp only [AH.n_push, AH.n_set]; rfl)) | refine AH.get_push_old ?_ _ | apply get_same | refine get_other ?_ (by first | assumption | omega | (simp only [AH.n_push, AH.n_set]; omega) | (dsimp only; omega) | (dsimp only; simp only [AH.n_push, AH.n_set]; omega)) | refine Le.get (by assumption) ?_) rfl rfl)) ⟨⟩ ?_
    first | refine xo_skip (want_no rfl (by first | rfl | assumption)) ?_ | refine xo_skip rfl ?_ | refine xo_val (want_if rfl (by first | rfl | assumption)) rfl ⟨⟩ ?_
    first | refine xo_skip (want_no rfl (by first | rfl | assumption)) ?_ | refine xo_skip rfl ?_ | refine xo_val (want_if rfl (by first | rfl | assumption)) (a_load_pp rfl rfl rfl rfl) ⟨⟩ ?_ | refine xo_val (want_if rfl (by first | rfl | assumption)) (a_load rfl rfl rfl (cell_of (by repeat' first | assumption | exact AH.get_push_new _ _ | exact AH.get_push_at (by first | (simp only [AH.n_push, AH.n_set]; done) | (simp only [AH.n_push, AH.n_set]; rfl)) | refine AH.get_push_old ?_ _ | apply get_same | refine get_other ?_ (by first | assumption | omega | (simp only [AH.n_push, AH.n_set]; omega) | (dsimp only; omega) | (dsimp only; simp only [AH.n_push, AH.n_set]; omega)) | refine Le.get (by assumption) ?_) rfl rfl)) ⟨⟩ ?_
    first | refine xo_skip (want_no rfl (by first | rfl | assumption)) ?_ | refine xo_skip rfl ?_ | refine xo_val (want_if rfl (by first | rfl | assumption)) (a_bin rfl rfl (bin_eql _ _ _ _ _)) ⟨⟩ ?_ | refine xo_val (want_if rfl (by first | rfl | assumption)) rfl ⟨⟩ ?_
    first | refine xo_val rfl (a_pick_t rfl (by first | rfl | assumption) rfl) ⟨⟩ ?_ | refine xo_val rfl (a_pick_f rfl (by first | rfl | assumption) rfl) ⟨⟩ ?_
    refine xo_val rfl rfl ⟨⟩ ?_
    refine xo_nil (t_norm (w_ret (ret_of rfl (hQ _ _ (hle.trans hle2) ⟨_, rfl, fun e => by have := hn e.2.2; cases this⟩))))
  | true =>
    refine xo_val rfl rfl ⟨⟩ ?_
    refine xo_val rfl rfl ⟨⟩ ?_
    first | refine xo_skip (want_no rfl (by first | rfl | assumption)) ?_ | refine xo_skip rfl ?_ | refine xo_val (want_if rfl (by first | rfl | assumption)) rfl ⟨⟩ ?_
    first | refine xo_skip (want_no rfl (by first | rfl | assumption)) ?_ | refine xo_skip rfl ?_ | refine xo_val (want_if rfl (by first | rfl | assumption)) (a_load_pp rfl rfl rfl rfl) ⟨⟩ ?_ | refine xo_val (want_if rfl (by first | rfl | assumption)) (a_load rfl rfl rfl (cell_of (by repeat' first | assumption | exact AH.get_push_new _ _ | exact AH.get_push_at (by first | (simp only [AH.n_push, AH.n_set]; done) | (simp only [AH.n_push, AH.n_set]; rfl)) | refine AH.get_push_old ?_ _ | apply get_same | refine get_other ?_ (by first | assumption | omega | (simp only [AH.n_push, AH.n_set]; omega) | (dsimp only; omega) | (dsimp only; simp only [AH.n_push, AH.n_set]; omega)) | refine Le.get (by assumption) ?_) rfl rfl)) ⟨⟩ ?_
    first | refine xo_skip (want_no rfl (by first | rfl | assumption)) ?_ | refine xo_skip rfl ?_ | refine xo_val (want_if rfl (by first | rfl | assumption)) rfl ⟨⟩ ?_
    first | refine xo_skip (want_no rfl (by first | rfl | assumption)) ?_ | refine xo_skip rfl ?_ | refine xo_val (want_if rfl (by first | rfl | assumption)) (a_load_pp rfl rfl rfl rfl) ⟨⟩ ?_ | refine xo_val (want_if rfl (by first | rfl | assumption)) (a_load rfl rfl rfl (cell_of (by repeat' first | assumption | exact AH.get_push_new _ _ | exact AH.get_push_at (by first | (simp only [AH.n_push, AH.n_set]; done) | (simp only [AH.n_push, AH.n_set]; rfl)) | refine AH.get_push_old ?_ _ | apply get_same | refine get_other ?_ (by first | assumption | omega | (simp only [AH.n_push, AH.n_set]; omega) | (dsimp only; omega) | (dsimp only; simp only [AH.n_push, AH.n_set]; omega)) | refine Le.get (by assumption) ?_) rfl rfl)) ⟨⟩ ?_
    first | refine xo_skip (want_no rfl (by first | rfl | assumption)) ?_ | refine xo_skip rfl ?_ | refine xo_val (want_if rfl (by first | rfl | assumption)) (a_bin rfl rfl (bin_eql _ _ _ _ _)) ⟨⟩ ?_ | refine xo_val (want_if rfl (by first | rfl | assumption)) rfl ⟨⟩ ?_
    cases he : (e1 == e2) with
    | false =>
      first | refine xo_val rfl (a_pick_t rfl (by first | rfl | assumption) rfl) ⟨⟩ ?_ | refine xo_val rfl (a_pick_f rfl (by first | rfl | assumption) rfl) ⟨⟩ ?_
      refine xo_val rfl rfl ⟨⟩ ?_
      first | refine xo_skip (want_no rfl (by first | rfl | assumption)) ?_ | refine xo_skip rfl ?_ | refine xo_val (want_if rfl (by first | rfl | assumption)) rfl ⟨⟩ ?_
      first | refine xo_skip (want_no rfl (by first | rfl | assumption)) ?_ | refine xo_skip rfl ?_ | refine xo_val (want_if rfl (by first | rfl | assumption)) (a_load_pp rfl rfl rfl rfl) ⟨⟩ ?_ | refine xo_val (want_if rfl (by first | rfl | assumption)) (a_load rfl rfl rfl (cell_of (by repeat' first | assumption | exact AH.get_push_new _ _ | exact AH.get_push_at (by first | (simp only [AH.n_push, AH.n_set]; done) | (simp only [AH.n_push, AH.n_set]; rfl)) | refine AH.get_push_old ?_ _ | apply get_same | refine get_other ?_ (by first | assumption | omega | (simp only [AH.n_push, AH.n_set]; omega) | (dsimp only; omega) | (dsimp only; simp only [AH.n_push, AH.n_set]; omega)) | refine Le.get (by assumption) ?_) rfl rfl)) ⟨⟩ ?_
      first | refine xo_skip (want_no rfl (by first | rfl | assumption)) ?_ | refine xo_skip rfl ?_ | refine xo_val (want_if rfl (by first | rfl | assumption)) rfl ⟨⟩ ?_
      first | refine xo_skip (want_no rfl (by first | rfl | assumption)) ?_ | refine xo_skip rfl ?_ | refine xo_val (want_if rfl (by first | rfl | assumption)) (a_load_pp rfl rfl rfl rfl) ⟨⟩ ?_ | refine xo_val (want_if rfl (by first | rfl | assumption)) (a_load rfl rfl rfl (cell_of (by repeat' first | assumption | exact AH.get_push_new _ _ | exact AH.get_push_at (by first | (simp only [AH.n_push, AH.n_set]; done) | (simp only [AH.n_push, AH.n_set]; rfl)) | refine AH.get_push_old ?_ _ | apply get_same | refine get_other ?_ (by first | assumption | omega | (simp only [AH.n_push, AH.n_set]; omega) | (dsimp only; omega) | (dsimp only; simp only [AH.n_push, AH.n_set]; omega)) | refine Le.get (by assumption) ?_) rfl rfl)) ⟨⟩ ?_
      first | refine xo_skip (want_no rfl (by first | rfl | assumption)) ?_ | refine xo_skip rfl ?_ | refine xo_val (want_if rfl (by first | rfl | assumption)) (a_bin rfl rfl (bin_eql _ _ _ _ _)) ⟨⟩ ?_ | refine xo_val (want_if rfl (by first | rfl | assumption)) rfl ⟨⟩ ?_
      first | refine xo_val rfl (a_pick_t rfl (by first | rfl | assumption) rfl) ⟨⟩ ?_ | refine xo_val rfl (a_pick_f rfl (by first | rfl | assumption) rfl) ⟨⟩ ?_
      refine xo_val rfl rfl ⟨⟩ ?_
      refine xo_nil (t_norm (w_ret (ret_of rfl (hQ _ _ (hle.trans hle2) ⟨_, rfl, fun e => by have := e.1; simp at he; exact absurd this he⟩))))
    | true =>
      first | refine xo_val rfl (a_pick_t rfl (by first | rfl | assumption) rfl) ⟨⟩ ?_ | refine xo_val rfl (a_pick_f rfl (by first | rfl | assumption) rfl) ⟨⟩ ?_
      refine xo_val rfl rfl ⟨⟩ ?_
      first | refine xo_skip (want_no rfl (by first | rfl | assumption)) ?_ | refine xo_skip rfl ?_ | refine xo_val (want_if rfl (by first | rfl | assumption)) rfl ⟨⟩ ?_
      first | refine xo_skip (want_no rfl (by first | rfl | assumption)) ?_ | refine xo_skip rfl ?_ | refine xo_val (want_if rfl (by first | rfl | assumption)) (a_load_pp rfl rfl rfl rfl) ⟨⟩ ?_ | refine xo_val (want_if rfl (by first | rfl | assumption)) (a_load rfl rfl rfl (cell_of (by repeat' first | assumption | exact AH.get_push_new _ _ | exact AH.get_push_at (by first | (simp only [AH.n_push, AH.n_set]; done) | (simp only [AH.n_push, AH.n_set]; rfl)) | refine AH.get_push_old ?_ _ | apply get_same | refine get_other ?_ (by first | assumption | omega | (simp only [AH.n_push, AH.n_set]; omega) | (dsimp only; omega) | (dsimp only; simp only [AH.n_push, AH.n_set]; omega)) | refine Le.get (by assumption) ?_) rfl rfl)) ⟨⟩ ?_
      first | refine xo_skip (want_no rfl (by first | rfl | assumption)) ?_ | refine xo_skip rfl ?_ | refine xo_val (want_if rfl (by first | rfl | assumption)) rfl ⟨⟩ ?_
      first | refine xo_skip (want_no rfl (by first | rfl | assumption)) ?_ | refine xo_skip rfl ?_ | refine xo_val (want_if rfl (by first | rfl | assumption)) (a_load_pp rfl rfl rfl rfl) ⟨⟩ ?_ | refine xo_val (want_if rfl (by first | rfl | assumption)) (a_load rfl rfl rfl (cell_of (by repeat' first | assumption | exact AH.get_push_new _ _ | exact AH.get_push_at (by first | (simp only [AH.n_push, AH.n_set]; done) | (simp only [AH.n_push, AH.n_set]; rfl)) | refine AH.get_push_old ?_ _ | apply get_same | refine get_other ?_ (by first | assumption | omega | (simp only [AH.n_push, AH.n_set]; omega) | (dsimp only; omega) | (dsimp only; simp only [AH.n_push, AH.n_set]; omega)) | refine Le.get (by assumption) ?_) rfl rfl)) ⟨⟩ ?_
      first | refine xo_skip (want_no rfl (by first | rfl | assumption)) ?_ | refine xo_skip rfl ?_ | refine xo_val (want_if rfl (by first | rfl | assumption)) (a_bin rfl rfl (bin_eql _ _ _ _ _)) ⟨⟩ ?_ | refine xo_val (want_if rfl (by first | rfl | assumption)) rfl ⟨⟩ ?_
      first | refine xo_val rfl (a_pick_t rfl (by first | rfl | assumption) rfl) ⟨⟩ ?_ | refine xo_val rfl (a_pick_f rfl (by first | rfl | assumption) rfl) ⟨⟩ ?_
      refine xo_val rfl rfl ⟨⟩ ?_
      refine xo_nil (t_norm (w_ret (ret_of rfl (hQ _ _ (hle.trans hle2) ⟨_, rfl, fun e => by simp [e.2.1]⟩))))
end Go.AI.Q
