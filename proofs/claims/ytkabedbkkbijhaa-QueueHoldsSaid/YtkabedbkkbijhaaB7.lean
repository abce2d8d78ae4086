/-
  THE QUEUE'S DESK: hits, merged. (Own work; steps printed by wip/gen/walk.py.)
-/
import Derived.Test.YtkabedbkkbijhaaB6
namespace Go.AI.Q
open Go Go.AI Go.Proofs
attribute [local irreducible] xOps xw
def total (rws : List (List Hit)) : Nat := (rws.map List.length).sum
def mergeF : Nat → List (List Hit) → List Hit
  | 0, _ => []
  | n + 1, rws =>
    match bestTo rws rws.length with
    | none => []
    | some (j, y) => y :: mergeF n (rws.modify j List.tail)
def mergeL (rws : List (List Hit)) : List Hit := mergeF (total rws) rws
theorem total_modify : ∀ (rws : List (List Hit)) (j : Nat) (y : Hit) (r : List Hit), rws[j]? = some (y :: r) → total rws = total (rws.modify j List.tail) + 1
  | [], j, y, r, h => by simp at h
  | x :: rws, 0, y, r, h => by
    simp at h; subst h
    simp [total]; omega
  | x :: rws, j + 1, y, r, h => by
    have := total_modify rws j y r (by simpa using h)
    simp only [total, List.modify_succ_cons, List.map_cons, List.sum_cons] at this ⊢
    omega
theorem bestTo_none (rws : List (List Hit)) : ∀ k, bestTo rws k = none → ∀ i r, i < k → rws[i]? = some r → r = []
  | 0, _, i, r, hi, _ => by omega
  | k + 1, h, i, r, hi, hr => by
    simp only [bestTo] at h
    split at h
    · split at h
      · cases h
      · split at h <;> cases h
    · rename_i hno
      by_cases e : i = k
      · subst e
        cases r with
        | nil => rfl
        | cons x r => exact absurd hr (hno x r)
      · exact bestTo_none rws k h i r (by omega) hr
theorem total_zero (rws : List (List Hit)) (h : ∀ r ∈ rws, r = []) : total rws = 0 := by
  induction rws with
  | nil => rfl
  | cons x r ih =>
    have := ih fun y hy => h y (List.mem_cons_of_mem _ hy)
    have hx := h x (List.mem_cons_self ..)
    subst hx
    simpa [total] using this
theorem mergeL_none {rws : List (List Hit)} (h : bestTo rws rws.length = none) : mergeL rws = [] := by
  unfold mergeL
  cases total rws with
  | zero => rfl
  | succ n => simp only [mergeF, h]
theorem mergeL_some {rws : List (List Hit)} {j : Nat} {y : Hit} (h : bestTo rws rws.length = some (j, y)) : mergeL rws = y :: mergeL (rws.modify j List.tail) := by
  obtain ⟨_, r, hr⟩ := bestTo_spec rws _ _ _ h
  have := total_modify rws j y r hr
  unfold mergeL
  rw [this]
  simp only [mergeF, h]
theorem set_modify {rws : List (List Hit)} {j : Nat} {y : Hit} {r : List Hit} (h : rws[j]? = some (y :: r)) : (rws.map hitsV).set j (hitsV r) = (rws.modify j List.tail).map hitsV := by
  induction rws generalizing j with
  | nil => simp at h
  | cons x rws ih =>
    cases j with
    | zero => simp at h; subst h; simp
    | succ j => simp at h ⊢; exact ih h
theorem merge_ok {h : AH} {l RC LC RB c : Nat} {rws : List (List Hit)} {Q : AO → AH → Prop} {J : List Nat → List Hit → AH → Prop} (hRC : h.get RC = some (.row [.slice (some ⟨RB, 0, none⟩) rws.length c] true 0)) (hRB : h.get RB = some (.row (flat (rws.map hitsV)) true 1))
    (hcap : c = 0 ∨ c = rws.length + 1) (hLC : h.get LC = some (.row [lessV] true 0)) (hne : rws ≠ []) (hlen : rws.length ≤ 1000000000)
    (hJ0 : J [] (mergeL rws) h) (hJ : ∀ own own' r h h', J own r h → But own h h' → (∀ b ∈ own', b ∈ own ∨ h.n ≤ b) → J own' r h')
    (hY : ∀ own x r h K, J own (x :: r) h → (∀ b ∈ own, b < h.n) → (∀ h', h.n ≤ h'.n → (∀ b ∈ own, ∀ o, h.get b = some o → h'.get b = some o) → J own r h' → K (.ret (.bool true)) h') → Y l [hitV x] h K)
    (hQ : ∀ own h', J own [] h' → Q (.ret (.tuple #[])) h') : C 37 [.func (.yield l) #[] #[], .pointer (some ⟨RC, 0, none⟩), .pointer (some ⟨LC, 0, none⟩)] h Q := by
  refine run_37 rfl ?_
  have A : Acc h 1 (.slice (some ⟨RB, 0, none⟩) rws.length c) (rws.map hitsV) := by
    have := Acc.new (h := h) (k := 1) (els := rws.map hitsV) (B := RB) (c := c) (sz_hits rws) hRB (by rw [List.length_map]; exact hcap)
    rwa [List.length_map] at this
  refine w_seq (w_region ?_)
  refine xo_val rfl (a_alloc rfl) ⟨⟩ ?_
  first | refine xo_val rfl (a_load_pp rfl rfl rfl rfl) ⟨⟩ ?_ | refine xo_val rfl (a_load rfl rfl rfl (cell_of (by repeat' first | assumption | exact AH.get_push_new _ _ | exact AH.get_push_at (by first | (simp only [AH.n_push, AH.n_set]; done) | (simp only [AH.n_push, AH.n_set]; rfl)) | refine AH.get_push_old ?_ _ | apply get_same | refine get_other ?_ (by first | assumption | omega | (simp only [AH.n_push, AH.n_set]; omega) | (dsimp only; omega) | (dsimp only; simp only [AH.n_push, AH.n_set]; omega)) | refine Le.get (by assumption) ?_) rfl rfl)) ⟨⟩ ?_
  first | refine xo_val rfl (a_load_pp rfl rfl rfl rfl) ⟨⟩ ?_ | refine xo_val rfl (a_load rfl rfl rfl (cell_of (by repeat' first | assumption | exact AH.get_push_new _ _ | exact AH.get_push_at (by first | (simp only [AH.n_push, AH.n_set]; done) | (simp only [AH.n_push, AH.n_set]; rfl)) | refine AH.get_push_old ?_ _ | apply get_same | refine get_other ?_ (by first | assumption | omega | (simp only [AH.n_push, AH.n_set]; omega) | (dsimp only; omega) | (dsimp only; simp only [AH.n_push, AH.n_set]; omega)) | refine Le.get (by assumption) ?_) rfl rfl)) ⟨⟩ ?_
  have hle0 := (Le.refl h).push (.row (Value.agg #[.slice none 0 0, .nilFunc]).cells.toList true 0)
  have hg0 := AH.get_push_new h (.row (Value.agg #[.slice none 0 0, .nilFunc]).cells.toList true 0)
  refine xo_call rfl rfl (clone_ok (A.le hle0) hne hlen fun h1 B1 c1 hle1 hB1 hrow1 => ⟨⟨hle1.get hg0, fun _ => a_load rfl rfl rfl (cell_of (hle1.get (hle0.get hLC)) rfl rfl), trivial⟩, ?_⟩)
  have hg1 := hle1.get hg0
  simp only [AH.n_push] at hB1
  have hB1n := AH.get_lt hrow1
  refine xo_val rfl (a_struct (l := [_, _]) rfl rfl rfl rfl) ⟨⟩ ?_
  refine xo_val rfl (a_store rfl rfl rfl rfl rfl (store_of (by repeat' first | assumption | exact AH.get_push_new _ _ | exact AH.get_push_at (by first | (simp only [AH.n_push, AH.n_set]; done) | (simp only [AH.n_push, AH.n_set]; rfl)) | refine AH.get_push_old ?_ _ | apply get_same | refine get_other ?_ (by first | assumption | omega | (simp only [AH.n_push, AH.n_set]; omega) | (dsimp only; omega) | (dsimp only; simp only [AH.n_push, AH.n_set]; omega)) | refine Le.get (by assumption) ?_) rfl rfl)) ⟨⟩ ?_
  refine xo_nil (t_norm ?_)
  refine w_seq (w_region ?_)
  first | refine xo_val rfl (a_loads_pp rfl rfl rfl rfl) ⟨⟩ ?_ | refine xo_val rfl (a_loads rfl rfl rfl (cells_of (by repeat' first | assumption | exact AH.get_push_new _ _ | exact AH.get_push_at (by first | (simp only [AH.n_push, AH.n_set]; done) | (simp only [AH.n_push, AH.n_set]; rfl)) | refine AH.get_push_old ?_ _ | apply get_same | refine get_other ?_ (by first | assumption | omega | (simp only [AH.n_push, AH.n_set]; omega) | (dsimp only; omega) | (dsimp only; simp only [AH.n_push, AH.n_set]; omega)) | refine Le.get (by assumption) ?_) rfl rfl rfl)) ⟨⟩ ?_
  have hgS := get_same (p := .row [.slice (some ⟨B1, 0, none⟩) rws.length c1, lessV] true 0) hg1
  have hrS := get_other (p := .row [.slice (some ⟨B1, 0, none⟩) rws.length c1, lessV] true 0) hrow1 (by omega : B1 ≠ h.n)
  refine xo_call rfl rfl (best_ok hrS hlen fun h2 hle2 => ⟨⟨⟩, ?_⟩)
  refine xo_val rfl rfl ⟨⟩ ?_
  refine xo_nil (t_norm ?_)
  have hJ1 : J [h.n, B1] (mergeL rws) h2 := by
    refine hJ [] _ _ h h2 hJ0 ?_ (fun b hb => ?_)
    · have : Le h (h1.set h.n (.row [.slice (some ⟨B1, 0, none⟩) rws.length c1, lessV] true 0)) := (hle0.trans hle1).set (Nat.le_refl _) _
      exact (this.trans hle2).but _
    · simp at hb; right; omega
  refine w_block (w_loop (fun n fr h' => ∃ rs : List (List Hit), n = total rs ∧ rs.length = rws.length ∧ h'.get h.n = some (.row [.slice (some ⟨B1, 0, none⟩) rws.length c1, lessV] true 0) ∧ h'.get B1 = some (.row (rs.map hitsV) true 1) ∧ J [h.n, B1] (mergeL rs) h' ∧
    fr 0 = .func (.yield l) #[] #[] ∧ fr 4 = .pointer (some ⟨h.n, 0, none⟩) ∧ fr 5 = .int .i64 (bestI (bestTo rs rs.length))) (total rws) ?_ ?_)
  · exact ⟨rws, rfl, rfl, hle2.get hgS, hle2.get hrS, hJ1, rfl, rfl, rfl⟩
  rintro n fr h3 ⟨rs, hn, hl3, hg3, hr3, hJ3, f0, f4, f5⟩
  rw [← fr_fix f0, ← fr_fix f4, ← fr_fix f5]
  refine w_seq ?_
  refine w_seq (w_region ?_)
  refine xo_val rfl rfl ⟨⟩ ?_
  refine xo_val rfl (a_bin rfl rfl (bin_geq _ _ _ _ _)) ⟨⟩ ?_
  refine xo_nil (t_norm ?_)
  cases hbt : bestTo rs rs.length with
  | none =>
    refine w_cond rfl (fun e => by cases e) (fun _ => w_exit (t_exit ?_))
    refine b_here (id := 0) (end_of rs_nil ?_)
    rw [mergeL_none hbt] at hJ3
    exact hQ _ _ hJ3
  | some jy =>
    obtain ⟨j, y⟩ := jy
    obtain ⟨hjk, r, hj⟩ := bestTo_spec rs _ j y hbt
    have hjc : (rs.map hitsV)[((j : Nat) : Int).toNat]? = some (hitsV (y :: r)) := map_at_int hj
    have hdy : ((y :: r).map hitV)[((0 : Int)).toNat]? = some (hitV y) := rfl
    have hgn := AH.get_lt hg3
    have hBn := AH.get_lt hr3
    refine w_cond rfl (fun _ => w_skip (t_norm ?_)) (fun e => by simp [bestI] at e)
    refine w_seq (w_block ?_)
    refine w_seq ?_
    refine w_seq (w_region ?_)
    refine xo_val rfl rfl ⟨⟩ ?_
    refine xo_val rfl rfl ⟨⟩ ?_
    first | refine xo_val rfl (a_load_pp rfl rfl rfl rfl) ⟨⟩ ?_ | refine xo_val rfl (a_load rfl rfl rfl (cell_of (by repeat' first | assumption | exact AH.get_push_new _ _ | exact AH.get_push_at (by first | (simp only [AH.n_push, AH.n_set]; done) | (simp only [AH.n_push, AH.n_set]; rfl)) | refine AH.get_push_old ?_ _ | apply get_same | refine get_other ?_ (by first | assumption | omega | (simp only [AH.n_push, AH.n_set]; omega) | (dsimp only; omega) | (dsimp only; simp only [AH.n_push, AH.n_set]; omega)) | refine Le.get (by assumption) ?_) rfl rfl)) ⟨⟩ ?_
    refine xo_val rfl rfl ⟨⟩ ?_
    refine xo_val rfl (a_ixs rfl rfl rfl rfl rfl (by show (0 : Int) ≤ ((j : Nat) : Int) ∧ ((j : Nat) : Int) < (rws.length : Int); omega)) ⟨⟩ ?_
    refine xo_val rfl (a_load (v := hitsV (y :: r)) rfl rfl rfl (cell_at (n := ((j : Nat) : Int).toNat * 1) hr3 rfl (by rw [Nat.zero_add, Nat.mul_one]; exact hjc))) ⟨⟩ ?_
    first | refine xo_val rfl (a_ix_ps rfl rfl rfl rfl rfl rfl (by omega) (by assumption)) ⟨⟩ ?_ | refine xo_val rfl (a_ixs rfl rfl rfl rfl rfl (by omega)) ⟨⟩ ?_ | refine xo_val rfl (a_ixa rfl rfl rfl rfl rfl (by omega)) ⟨⟩ ?_
    first | refine xo_val rfl (a_loads_pp rfl rfl rfl rfl) ⟨⟩ ?_ | refine xo_val rfl (a_loads rfl rfl rfl (cells_of (by repeat' first | assumption | exact AH.get_push_new _ _ | exact AH.get_push_at (by first | (simp only [AH.n_push, AH.n_set]; done) | (simp only [AH.n_push, AH.n_set]; rfl)) | refine AH.get_push_old ?_ _ | apply get_same | refine get_other ?_ (by first | assumption | omega | (simp only [AH.n_push, AH.n_set]; omega) | (dsimp only; omega) | (dsimp only; simp only [AH.n_push, AH.n_set]; omega)) | refine Le.get (by assumption) ?_) rfl rfl rfl)) ⟨⟩ ?_
    rw [mergeL_some hbt] at hJ3
    refine xo_yield rfl rfl (hY _ y _ _ _ hJ3 (by simp; omega) fun h4 hn4 hk4 hJ4 => ⟨⟨⟩, ?_⟩)
    refine xo_val rfl rfl ⟨⟩ ?_
    refine xo_nil (t_norm (w_cond rfl (fun e => by cases e) fun _ => w_skip (t_norm ?_)))
    have hg4 := hk4 h.n (by simp) _ hg3
    have hr4 := hk4 B1 (by simp) _ hr3
    refine w_region ?_
    refine xo_val rfl rfl ⟨⟩ ?_
    first | refine xo_val rfl (a_load_pp rfl rfl rfl rfl) ⟨⟩ ?_ | refine xo_val rfl (a_load rfl rfl rfl (cell_of (by repeat' first | assumption | exact AH.get_push_new _ _ | exact AH.get_push_at (by first | (simp only [AH.n_push, AH.n_set]; done) | (simp only [AH.n_push, AH.n_set]; rfl)) | refine AH.get_push_old ?_ _ | apply get_same | refine get_other ?_ (by first | assumption | omega | (simp only [AH.n_push, AH.n_set]; omega) | (dsimp only; omega) | (dsimp only; simp only [AH.n_push, AH.n_set]; omega)) | refine Le.get (by assumption) ?_) rfl rfl)) ⟨⟩ ?_
    refine xo_val rfl rfl ⟨⟩ ?_
    refine xo_val rfl rfl ⟨⟩ ?_
    first | refine xo_val rfl (a_load_pp rfl rfl rfl rfl) ⟨⟩ ?_ | refine xo_val rfl (a_load rfl rfl rfl (cell_of (by repeat' first | assumption | exact AH.get_push_new _ _ | exact AH.get_push_at (by first | (simp only [AH.n_push, AH.n_set]; done) | (simp only [AH.n_push, AH.n_set]; rfl)) | refine AH.get_push_old ?_ _ | apply get_same | refine get_other ?_ (by first | assumption | omega | (simp only [AH.n_push, AH.n_set]; omega) | (dsimp only; omega) | (dsimp only; simp only [AH.n_push, AH.n_set]; omega)) | refine Le.get (by assumption) ?_) rfl rfl)) ⟨⟩ ?_
    refine xo_val rfl rfl ⟨⟩ ?_
    refine xo_val rfl (a_ixs rfl rfl rfl rfl rfl (by show (0 : Int) ≤ ((j : Nat) : Int) ∧ ((j : Nat) : Int) < (rws.length : Int); omega)) ⟨⟩ ?_
    refine xo_val rfl (a_load (v := hitsV (y :: r)) rfl rfl rfl (cell_at (n := ((j : Nat) : Int).toNat * 1) hr4 rfl (by rw [Nat.zero_add, Nat.mul_one]; exact hjc))) ⟨⟩ ?_
    refine xo_val rfl (a_drop_ps rfl rfl rfl rfl rfl rfl (by simp; omega)) ⟨⟩ ?_
    refine xo_val rfl (a_ixs rfl rfl rfl rfl rfl (by show (0 : Int) ≤ ((j : Nat) : Int) ∧ ((j : Nat) : Int) < (rws.length : Int); omega)) ⟨⟩ ?_
    have hst := store_at (h := h4) (a := ⟨B1, 0, none⟩) (vs := [hitsV r]) (n := ((j : Nat) : Int).toNat * 1) hr4 rfl (by simp; omega)
    refine xo_val rfl (a_store rfl rfl rfl rfl rfl hst) ⟨⟩ ?_
    refine xo_nil (b_norm (t_norm ?_))
    have hput : putAt (rs.map hitsV) (0 + ((j : Nat) : Int).toNat * 1) [hitsV r] = (rs.modify j List.tail).map hitsV := by
      rw [Nat.zero_add, Nat.mul_one, Int.toNat_natCast]
      exact set_modify hj
    have hg5 := get_other (p := .row (putAt (rs.map hitsV) (0 + ((j : Nat) : Int).toNat * 1) [hitsV r]) true 1) hg4 (by omega : h.n ≠ B1)
    have hr5 : (h4.set B1 (.row (putAt (rs.map hitsV) (0 + ((j : Nat) : Int).toNat * 1) [hitsV r]) true 1)).get B1 = some (.row ((rs.modify j List.tail).map hitsV) true 1) := by
      rw [get_same hr4, hput]
    refine w_region ?_
    first | refine xo_val rfl (a_loads_pp rfl rfl rfl rfl) ⟨⟩ ?_ | refine xo_val rfl (a_loads rfl rfl rfl (cells_of (by repeat' first | assumption | exact AH.get_push_new _ _ | exact AH.get_push_at (by first | (simp only [AH.n_push, AH.n_set]; done) | (simp only [AH.n_push, AH.n_set]; rfl)) | refine AH.get_push_old ?_ _ | apply get_same | refine get_other ?_ (by first | assumption | omega | (simp only [AH.n_push, AH.n_set]; omega) | (dsimp only; omega) | (dsimp only; simp only [AH.n_push, AH.n_set]; omega)) | refine Le.get (by assumption) ?_) rfl rfl rfl)) ⟨⟩ ?_
    have hl5 : (rs.modify j List.tail).length = rws.length := by rw [List.length_modify]; exact hl3
    have hbo := @best_ok (h4.set B1 (.row (putAt (rs.map hitsV) (0 + ((j : Nat) : Int).toNat * 1) [hitsV r]) true 1)) B1 c1 (rs.modify j List.tail)
    rw [hl5] at hbo
    refine xo_call rfl rfl (hbo hr5 hlen fun h6 hle6 => ⟨⟨⟩, ?_⟩)
    refine xo_val rfl rfl ⟨⟩ ?_
    refine xo_nil ?_
    refine ⟨total (rs.modify j List.tail), ?_, rs.modify j List.tail, rfl, hl5, hle6.get hg5, hle6.get hr5, ?_, rfl, rfl, ?_⟩
    · have := total_modify rs j y r hj
      omega
    · refine hJ _ _ _ h4 _ hJ4 ?_ (fun b hb => .inl hb)
      exact ((But.refl _ _).set (.inl (by simp)) _).trans (hle6.but []) (fun k hk => by cases hk)
    · show Value.int .i64 (bestI (bestTo (rs.modify j List.tail) rws.length)) = _
      rw [hl5]
end Go.AI.Q
