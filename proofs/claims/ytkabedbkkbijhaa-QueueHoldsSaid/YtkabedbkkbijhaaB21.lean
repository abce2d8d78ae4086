/-
  THE QUEUE'S LAWS: acts: commands, whole. (Own work; steps printed by wip/gen/walk.py.)
-/
import Derived.Test.YtkabedbkkbijhaaB20
namespace Go.AI.Q
open Go Go.AI Go.Proofs
attribute [local irreducible] xOps xw
set_option maxHeartbeats 4000000 in
theorem cmd_ok (s : ActM) (stamp : Int) (hst : 0 ≤ stamp ∧ stamp ≤ 1000) : Pure 10 [actV s, .int .i64 stamp] (.tuple #[cmdOf (cmdM s stamp).1, outsV (cmdM s stamp).2]) := by
  intro h Q hQ
  refine run_10 rfl ?_
  have hle2 := ((Le.refl h).push (.row (actV s).cells.toList true 0)).push (.row (cmdV 0 0 0 ⟨0, 0⟩).cells.toList true 0)
  have fin : ∀ (c : Cmd), cmdM s stamp = (c, []) → ∃ h', Gs (fun _ => .tuple #[cmdOf c, .slice none 0 0]) (((h.push (.row (actV s).cells.toList true 0)).push (.row (cmdV 0 0 0 ⟨0, 0⟩).cells.toList true 0)).set (h.n + 1) (.row (cmdOf c).cells.toList true 0)) (fun _ => .tuple #[cmdOf (cmdM s stamp).1, outsV (cmdM s stamp).2]) h' ∧ Q (.ret (.tuple #[cmdOf (cmdM s stamp).1, outsV (cmdM s stamp).2])) h' := by
    intro c hM
    rw [hM] at hQ ⊢
    exact ⟨_, Gs.nils fun t => FZ.tupL (.cons (.refl _) (.cons (.nil 4) .nil)), hQ _ (hle2.set (by omega) _)⟩
  have hk := restZ_lt s.kind 8 (by decide)
  have h5 := restZ_lt s.n 5 (by decide)
  have h9 := restZ_lt s.n 9 (by decide)
  have hkd : kindOf s = restZ s.kind 8 := rfl
  refine w_seq (w_region ?_)
  refine xo_val rfl (a_box rfl rfl) ⟨⟩ ?_
  refine xo_val rfl (a_alloc rfl) ⟨⟩ ?_
  refine xo_val rfl rfl ⟨⟩ ?_
  refine xo_nil (t_norm ?_)
  refine w_seq (w_region ?_)
  refine xo_val rfl rfl ⟨⟩ ?_
  first | refine xo_val rfl (a_load_pp rfl rfl rfl rfl) ⟨⟩ ?_ | refine xo_val rfl (a_load rfl rfl rfl (cell_of (by repeat' first | assumption | exact AH.get_push_new _ _ | exact AH.get_push_at (by first | (simp only [AH.n_push, AH.n_set]; done) | (simp only [AH.n_push, AH.n_set]; rfl)) | refine AH.get_push_old ?_ _ | apply get_same | refine get_other ?_ (by first | assumption | omega | (simp only [AH.n_push, AH.n_set]; omega) | (dsimp only; omega) | (dsimp only; simp only [AH.n_push, AH.n_set]; omega)) | refine Le.get (by assumption) ?_) rfl rfl)) ⟨⟩ ?_
  refine xo_call rfl rfl (rest_ok (by decide) (by decide) ⟨⟨⟩, ?_⟩)
  refine xo_val rfl rfl ⟨⟩ ?_
  refine xo_nil (t_norm ?_)
  refine w_seq ?_
  refine w_seq (w_region ?_)
  refine xo_val rfl rfl ⟨⟩ ?_
  first | refine xo_val rfl (a_load_pp rfl rfl rfl rfl) ⟨⟩ ?_ | refine xo_val rfl (a_load rfl rfl rfl (cell_of (by repeat' first | assumption | exact AH.get_push_new _ _ | exact AH.get_push_at (by first | (simp only [AH.n_push, AH.n_set]; done) | (simp only [AH.n_push, AH.n_set]; rfl)) | refine AH.get_push_old ?_ _ | apply get_same | refine get_other ?_ (by first | assumption | omega | (simp only [AH.n_push, AH.n_set]; omega) | (dsimp only; omega) | (dsimp only; simp only [AH.n_push, AH.n_set]; omega)) | refine Le.get (by assumption) ?_) rfl rfl)) ⟨⟩ ?_
  refine xo_call rfl rfl (rest_ok (by decide) (by decide) ⟨⟨⟩, ?_⟩)
  refine xo_nil (t_norm (w_block ?_))
  refine w_seq (w_region ?_)
  first | refine xo_val rfl (a_bin rfl rfl (bin_eql _ _ _ _ _)) ⟨⟩ ?_ | refine xo_val rfl rfl ⟨⟩ ?_
  refine xo_val rfl rfl ⟨⟩ ?_
  refine xo_nil (t_norm ?_)
  by_cases k0 : restZ s.kind 8 = 0
  · have hd : (restZ s.kind 8 == 0) = true := by simpa using k0
    refine w_cond rfl (fun _ => ?_) (fun e => by rw [hd] at e; cases e)
    refine w_seq (w_region ?_)
    refine xo_val rfl (a_struct (l := [_, _, _, _, _, _, _, _, _, _, _, _, _, _]) rfl rfl rfl rfl) ⟨⟩ ?_
    refine xo_val rfl (a_store rfl rfl rfl rfl rfl (store_of (by repeat' first | assumption | exact AH.get_push_new _ _ | exact AH.get_push_at (by first | (simp only [AH.n_push, AH.n_set]; done) | (simp only [AH.n_push, AH.n_set]; rfl)) | refine AH.get_push_old ?_ _ | apply get_same | refine get_other ?_ (by first | assumption | omega | (simp only [AH.n_push, AH.n_set]; omega) | (dsimp only; omega) | (dsimp only; simp only [AH.n_push, AH.n_set]; omega)) | refine Le.get (by assumption) ?_) rfl rfl)) ⟨⟩ ?_
    refine xo_val rfl rfl ⟨⟩ ?_
    refine xo_nil (t_norm ?_)
    obtain ⟨h', hG, hq⟩ := fin ⟨2, 0, 0, ⟨0, 0⟩⟩ (by unfold cmdM; rw [hkd, if_pos k0])
    exact w_ret (ret_give (rs_cell rfl rfl rfl (cells_of (get_same (by repeat' first | assumption | exact AH.get_push_new _ _ | exact AH.get_push_at (by first | (simp only [AH.n_push, AH.n_set]; done) | (simp only [AH.n_push, AH.n_set]; rfl)) | refine AH.get_push_old ?_ _ | apply get_same | refine get_other ?_ (by first | assumption | omega | (simp only [AH.n_push, AH.n_set]; omega) | (dsimp only; omega) | (dsimp only; simp only [AH.n_push, AH.n_set]; omega)) | refine Le.get (by assumption) ?_)) rfl rfl rfl) (rs_tmp rfl rs_nil)) hG hq)
  have hd0 : (restZ s.kind 8 == 0) = false := by simpa using k0
  refine w_cond rfl (fun e => by rw [hd0] at e; cases e) (fun _ => ?_)
  refine w_seq (w_region ?_)
  first | refine xo_val rfl (a_bin rfl rfl (bin_eql _ _ _ _ _)) ⟨⟩ ?_ | refine xo_val rfl rfl ⟨⟩ ?_
  refine xo_val rfl rfl ⟨⟩ ?_
  refine xo_nil (t_norm ?_)
  by_cases k1 : restZ s.kind 8 = 1
  · have hd : (restZ s.kind 8 == 1) = true := by simpa using k1
    refine w_cond rfl (fun _ => ?_) (fun e => by rw [hd] at e; cases e)
    refine w_seq (w_region ?_)
    refine xo_val rfl rfl ⟨⟩ ?_
    refine xo_val rfl (a_struct (l := [_, _, _, _, _, _, _, _, _, _, _, _, _, _]) rfl rfl rfl rfl) ⟨⟩ ?_
    refine xo_val rfl (a_store rfl rfl rfl rfl rfl (store_of (by repeat' first | assumption | exact AH.get_push_new _ _ | exact AH.get_push_at (by first | (simp only [AH.n_push, AH.n_set]; done) | (simp only [AH.n_push, AH.n_set]; rfl)) | refine AH.get_push_old ?_ _ | apply get_same | refine get_other ?_ (by first | assumption | omega | (simp only [AH.n_push, AH.n_set]; omega) | (dsimp only; omega) | (dsimp only; simp only [AH.n_push, AH.n_set]; omega)) | refine Le.get (by assumption) ?_) rfl rfl)) ⟨⟩ ?_
    refine xo_val rfl rfl ⟨⟩ ?_
    refine xo_nil (t_norm ?_)
    obtain ⟨h', hG, hq⟩ := fin ⟨3, restZ s.id 12, 0, ⟨0, 0⟩⟩ (by unfold cmdM; rw [hkd, if_neg k0, if_pos k1])
    exact w_ret (ret_give (rs_cell rfl rfl rfl (cells_of (get_same (by repeat' first | assumption | exact AH.get_push_new _ _ | exact AH.get_push_at (by first | (simp only [AH.n_push, AH.n_set]; done) | (simp only [AH.n_push, AH.n_set]; rfl)) | refine AH.get_push_old ?_ _ | apply get_same | refine get_other ?_ (by first | assumption | omega | (simp only [AH.n_push, AH.n_set]; omega) | (dsimp only; omega) | (dsimp only; simp only [AH.n_push, AH.n_set]; omega)) | refine Le.get (by assumption) ?_)) rfl rfl rfl) (rs_tmp rfl rs_nil)) hG hq)
  have hd1 : (restZ s.kind 8 == 1) = false := by simpa using k1
  refine w_cond rfl (fun e => by rw [hd1] at e; cases e) (fun _ => ?_)
  have poll : kindOf s = 2 ∨ kindOf s = 3 → ∀ (fr : Fr) (Qx : XQ), (∀ fr h, retQ tab [ResultVar.cell 4 40, ResultVar.tmp 5] Q .ret fr h → Qx .ret fr h) → fr 2 = .pointer (some ⟨h.n, 0, none⟩) → fr 4 = .pointer (some ⟨h.n + 1, 0, none⟩) → fr 6 = .int .i64 (restZ s.id 12) →
      xw tab C Y ((XC.region x10_9).seq XC.ret) fr ((h.push (.row (actV s).cells.toList true 0)).push (.row (cmdV 0 0 0 ⟨0, 0⟩).cells.toList true 0)) Qx := by
    intro hk23 fr Qx hQx f2 f4 f6
    rw [← fr_fix f2, ← fr_fix f4, ← fr_fix f6]
    refine w_seq (w_region ?_)
    refine xo_val rfl rfl ⟨⟩ ?_
    refine xo_val rfl rfl ⟨⟩ ?_
    first | refine xo_val rfl (a_load_pp rfl rfl rfl rfl) ⟨⟩ ?_ | refine xo_val rfl (a_load rfl rfl rfl (cell_of (by repeat' first | assumption | exact AH.get_push_new _ _ | exact AH.get_push_at (by first | (simp only [AH.n_push, AH.n_set]; done) | (simp only [AH.n_push, AH.n_set]; rfl)) | refine AH.get_push_old ?_ _ | apply get_same | refine get_other ?_ (by first | assumption | omega | (simp only [AH.n_push, AH.n_set]; omega) | (dsimp only; omega) | (dsimp only; simp only [AH.n_push, AH.n_set]; omega)) | refine Le.get (by assumption) ?_) rfl rfl)) ⟨⟩ ?_
    refine xo_call rfl rfl (rest_ok (by decide) (by decide) ⟨⟨⟩, ?_⟩)
    refine xo_val rfl (a_bin rfl rfl (bin_sub64 _ _ _ _ (by omega))) ⟨⟩ ?_
    refine xo_val rfl (a_struct (l := [_, _, _, _, _, _, _, _, _, _, _, _, _, _]) rfl rfl rfl rfl) ⟨⟩ ?_
    refine xo_val rfl (a_store rfl rfl rfl rfl rfl (store_of (by repeat' first | assumption | exact AH.get_push_new _ _ | exact AH.get_push_at (by first | (simp only [AH.n_push, AH.n_set]; done) | (simp only [AH.n_push, AH.n_set]; rfl)) | refine AH.get_push_old ?_ _ | apply get_same | refine get_other ?_ (by first | assumption | omega | (simp only [AH.n_push, AH.n_set]; omega) | (dsimp only; omega) | (dsimp only; simp only [AH.n_push, AH.n_set]; omega)) | refine Le.get (by assumption) ?_) rfl rfl)) ⟨⟩ ?_
    refine xo_val rfl rfl ⟨⟩ ?_
    refine xo_nil (t_norm ?_)
    obtain ⟨h', hG, hq⟩ := fin ⟨4, restZ s.id 12, restZ s.n 5 - 1, ⟨0, 0⟩⟩ (by unfold cmdM; rw [if_neg (by rw [hkd]; exact k0), if_neg (by rw [hkd]; exact k1), if_pos hk23])
    refine w_ret (hQx _ _ ?_)
    exact (ret_give (rs_cell rfl rfl rfl (cells_of (get_same (by repeat' first | assumption | exact AH.get_push_new _ _ | exact AH.get_push_at (by first | (simp only [AH.n_push, AH.n_set]; done) | (simp only [AH.n_push, AH.n_set]; rfl)) | refine AH.get_push_old ?_ _ | apply get_same | refine get_other ?_ (by first | assumption | omega | (simp only [AH.n_push, AH.n_set]; omega) | (dsimp only; omega) | (dsimp only; simp only [AH.n_push, AH.n_set]; omega)) | refine Le.get (by assumption) ?_)) rfl rfl rfl) (rs_tmp rfl rs_nil)) hG hq)
  refine w_seq ?_
  refine w_seq (w_region ?_)
  first | refine xo_val rfl (a_bin rfl rfl (bin_eql _ _ _ _ _)) ⟨⟩ ?_ | refine xo_val rfl rfl ⟨⟩ ?_
  refine xo_val rfl rfl ⟨⟩ ?_
  refine xo_nil (t_norm ?_)
  by_cases k2 : restZ s.kind 8 = 2
  · have hd : (restZ s.kind 8 == 2) = true := by simpa using k2
    refine w_cond rfl (fun _ => w_skip (t_norm ?_)) (fun e => by rw [hd] at e; cases e)
    refine w_cond rfl (fun _ => ?_) (fun e => by rw [hd] at e; cases e)
    exact poll (.inl k2) _ _ (fun _ _ x => x) (by rfl) (by rfl) (by rfl)
  have hd2 : (restZ s.kind 8 == 2) = false := by simpa using k2
  refine w_cond rfl (fun e => by rw [hd2] at e; cases e) (fun _ => ?_)
  refine w_region ?_
  first | refine xo_val rfl (a_bin rfl rfl (bin_eql _ _ _ _ _)) ⟨⟩ ?_ | refine xo_val rfl rfl ⟨⟩ ?_
  refine xo_val rfl rfl ⟨⟩ ?_
  refine xo_nil (t_norm ?_)
  by_cases k3 : restZ s.kind 8 = 3
  · have hd : (restZ s.kind 8 == 3) = true := by simpa using k3
    refine w_cond rfl (fun _ => ?_) (fun e => by rw [hd] at e; cases e)
    exact poll (.inr k3) _ _ (fun _ _ x => x) (by rfl) (by rfl) (by rfl)
  have hd3 : (restZ s.kind 8 == 3) = false := by simpa using k3
  refine w_cond rfl (fun e => by rw [hd3] at e; cases e) (fun _ => ?_)
  clear poll
  refine w_seq (w_region ?_)
  first | refine xo_val rfl (a_bin rfl rfl (bin_eql _ _ _ _ _)) ⟨⟩ ?_ | refine xo_val rfl rfl ⟨⟩ ?_
  refine xo_val rfl rfl ⟨⟩ ?_
  refine xo_nil (t_norm ?_)
  by_cases k4 : restZ s.kind 8 = 4
  · have hd : (restZ s.kind 8 == 4) = true := by simpa using k4
    refine w_cond rfl (fun _ => ?_) (fun e => by rw [hd] at e; cases e)
    refine w_seq (w_region ?_)
    refine xo_val rfl (a_struct (l := [_, _, _, _, _, _, _, _, _, _, _, _, _, _]) rfl rfl rfl rfl) ⟨⟩ ?_
    refine xo_val rfl (a_store rfl rfl rfl rfl rfl (store_of (by repeat' first | assumption | exact AH.get_push_new _ _ | exact AH.get_push_at (by first | (simp only [AH.n_push, AH.n_set]; done) | (simp only [AH.n_push, AH.n_set]; rfl)) | refine AH.get_push_old ?_ _ | apply get_same | refine get_other ?_ (by first | assumption | omega | (simp only [AH.n_push, AH.n_set]; omega) | (dsimp only; omega) | (dsimp only; simp only [AH.n_push, AH.n_set]; omega)) | refine Le.get (by assumption) ?_) rfl rfl)) ⟨⟩ ?_
    refine xo_val rfl rfl ⟨⟩ ?_
    refine xo_nil (t_norm ?_)
    obtain ⟨h', hG, hq⟩ := fin ⟨5, 0, 0, ⟨0, 0⟩⟩ (by unfold cmdM; rw [hkd, if_neg k0, if_neg k1, if_neg (by omega), if_pos k4])
    exact w_ret (ret_give (rs_cell rfl rfl rfl (cells_of (get_same (by repeat' first | assumption | exact AH.get_push_new _ _ | exact AH.get_push_at (by first | (simp only [AH.n_push, AH.n_set]; done) | (simp only [AH.n_push, AH.n_set]; rfl)) | refine AH.get_push_old ?_ _ | apply get_same | refine get_other ?_ (by first | assumption | omega | (simp only [AH.n_push, AH.n_set]; omega) | (dsimp only; omega) | (dsimp only; simp only [AH.n_push, AH.n_set]; omega)) | refine Le.get (by assumption) ?_)) rfl rfl rfl) (rs_tmp rfl rs_nil)) hG hq)
  have hd4 : (restZ s.kind 8 == 4) = false := by simpa using k4
  refine w_cond rfl (fun e => by rw [hd4] at e; cases e) (fun _ => ?_)
  refine w_seq (w_region ?_)
  first | refine xo_val rfl (a_bin rfl rfl (bin_eql _ _ _ _ _)) ⟨⟩ ?_ | refine xo_val rfl rfl ⟨⟩ ?_
  refine xo_val rfl rfl ⟨⟩ ?_
  refine xo_nil (t_norm ?_)
  by_cases k5 : restZ s.kind 8 = 5
  · have hd : (restZ s.kind 8 == 5) = true := by simpa using k5
    refine w_cond rfl (fun _ => ?_) (fun e => by rw [hd] at e; cases e)
    refine w_seq (w_region ?_)
    refine xo_val rfl rfl ⟨⟩ ?_
    first | refine xo_val rfl (a_load_pp rfl rfl rfl rfl) ⟨⟩ ?_ | refine xo_val rfl (a_load rfl rfl rfl (cell_of (by repeat' first | assumption | exact AH.get_push_new _ _ | exact AH.get_push_at (by first | (simp only [AH.n_push, AH.n_set]; done) | (simp only [AH.n_push, AH.n_set]; rfl)) | refine AH.get_push_old ?_ _ | apply get_same | refine get_other ?_ (by first | assumption | omega | (simp only [AH.n_push, AH.n_set]; omega) | (dsimp only; omega) | (dsimp only; simp only [AH.n_push, AH.n_set]; omega)) | refine Le.get (by assumption) ?_) rfl rfl)) ⟨⟩ ?_
    refine xo_call rfl rfl (rest_ok (by decide) (by decide) ⟨⟨⟩, ?_⟩)
    refine xo_val rfl (a_bin rfl rfl (bin_add64 _ _ _ _ (by omega))) ⟨⟩ ?_
    refine xo_val rfl (a_struct (l := [_, _, _, _, _, _, _, _, _, _, _, _, _, _]) rfl rfl rfl rfl) ⟨⟩ ?_
    refine xo_val rfl (a_store rfl rfl rfl rfl rfl (store_of (by repeat' first | assumption | exact AH.get_push_new _ _ | exact AH.get_push_at (by first | (simp only [AH.n_push, AH.n_set]; done) | (simp only [AH.n_push, AH.n_set]; rfl)) | refine AH.get_push_old ?_ _ | apply get_same | refine get_other ?_ (by first | assumption | omega | (simp only [AH.n_push, AH.n_set]; omega) | (dsimp only; omega) | (dsimp only; simp only [AH.n_push, AH.n_set]; omega)) | refine Le.get (by assumption) ?_) rfl rfl)) ⟨⟩ ?_
    refine xo_val rfl rfl ⟨⟩ ?_
    refine xo_nil (t_norm ?_)
    obtain ⟨h', hG, hq⟩ := fin ⟨6 + restZ s.n 9, 0, 0, ⟨0, 0⟩⟩ (by unfold cmdM; rw [hkd, if_neg k0, if_neg k1, if_neg (by omega), if_neg k4, if_pos k5])
    exact w_ret (ret_give (rs_cell rfl rfl rfl (cells_of (get_same (by repeat' first | assumption | exact AH.get_push_new _ _ | exact AH.get_push_at (by first | (simp only [AH.n_push, AH.n_set]; done) | (simp only [AH.n_push, AH.n_set]; rfl)) | refine AH.get_push_old ?_ _ | apply get_same | refine get_other ?_ (by first | assumption | omega | (simp only [AH.n_push, AH.n_set]; omega) | (dsimp only; omega) | (dsimp only; simp only [AH.n_push, AH.n_set]; omega)) | refine Le.get (by assumption) ?_)) rfl rfl rfl) (rs_tmp rfl rs_nil)) hG hq)
  have hd5 : (restZ s.kind 8 == 5) = false := by simpa using k5
  refine w_cond rfl (fun e => by rw [hd5] at e; cases e) (fun _ => w_skip (b_norm (t_norm ?_)))
  have hM : cmdM s stamp = (⟨1, 0, 0, ⟨stamp, 7⟩⟩, outsOf s stamp) := by unfold cmdM; rw [hkd, if_neg k0, if_neg k1, if_neg (by omega), if_neg k4, if_neg k5]
  exact pub_ok hst (by rfl) (by rfl) (by rfl) (by rfl) fun h' hle => by rw [hM] at hQ; exact hQ h' hle
end Go.AI.Q
