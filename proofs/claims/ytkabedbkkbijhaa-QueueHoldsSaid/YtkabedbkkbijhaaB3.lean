/-
  THE QUEUE'S SEAT: data; small functions. (Own work; steps printed by wip/gen/walk.py.)
-/
import Derived.Test.YtkabedbkkbijhaaB2
namespace Go.AI.Q
open Go Go.AI Go.Proofs
attribute [local irreducible] xOps xw
/-! ### data, as values -/
structure Ref where
  slot : Int
  gen : Int
  deriving DecidableEq
structure Found where
  sets : List (List Int)
  refs : List Ref
  deriving DecidableEq
structure Hit where
  id : Int
  f : Found
  deriving DecidableEq
structure Out where
  hits : List Hit
  lost : List Int
  deriving DecidableEq
def intV (n : Int) : Value := .int .i64 n
def refV (r : Ref) : Value := .agg #[.int .i64 r.slot, .int .i64 r.gen]
def intsV (l : List Int) : Value := PS 1 (l.map intV)
def setsV (l : List (List Int)) : Value := PS 1 (l.map intsV)
def refsV (l : List Ref) : Value := PS 2 (l.map refV)
def foundV (f : Found) : Value := .agg #[setsV f.sets, refsV f.refs]
def hitV (x : Hit) : Value := .agg #[.int .i64 x.id, setsV x.f.sets, refsV x.f.refs]
def hitsV (l : List Hit) : Value := PS 3 (l.map hitV)
def outV (o : Out) : Value := .agg #[hitsV o.hits, intsV o.lost, .slice none 0 0, .slice none 0 0]
def outsV (l : List Out) : Value := PS 4 (l.map outV)
theorem sized_map {α : Type} {k : Nat} {f : α → Value} (h : ∀ x, (f x).cells.size = k ∧ notTup (f x) = true) (l : List α) : sized k (l.map f) := fun v hv => by
  obtain ⟨x, _, rfl⟩ := List.mem_map.1 hv
  exact h x
theorem sz_int (l : List Int) : sized 1 (l.map intV) := sized_map (f := intV) (fun _ => ⟨rfl, rfl⟩) l
theorem sz_ints (l : List (List Int)) : sized 1 (l.map intsV) := sized_map (f := intsV) (fun _ => ⟨rfl, rfl⟩) l
theorem sz_ref (l : List Ref) : sized 2 (l.map refV) := sized_map (f := refV) (fun _ => ⟨rfl, rfl⟩) l
theorem sz_found (l : List Found) : sized 2 (l.map foundV) := sized_map (f := foundV) (fun _ => ⟨rfl, rfl⟩) l
theorem sz_hit (l : List Hit) : sized 3 (l.map hitV) := sized_map (f := hitV) (fun _ => ⟨rfl, rfl⟩) l
theorem sz_hits (l : List (List Hit)) : sized 1 (l.map hitsV) := sized_map (f := hitsV) (fun _ => ⟨rfl, rfl⟩) l
theorem sz_out (l : List Out) : sized 4 (l.map outV) := sized_map (f := outV) (fun _ => ⟨rfl, rfl⟩) l
theorem map_at {α : Type} {f : α → Value} {l : List α} {i : Nat} {x : α} (h : l[i]? = some x) : (l.map f)[i]? = some (f x) := by rw [List.getElem?_map, h]; rfl
theorem map_at_int {α : Type} {f : α → Value} {l : List α} {i : Nat} {x : α} (h : l[i]? = some x) : (l.map f)[((i : Nat) : Int).toNat]? = some (f x) := by rw [Int.toNat_natCast]; exact map_at h
/-- A function that leaves all that was. -/
def Pure (f : FuncId) (args : List Value) (r : Value) : Prop := ∀ h Q, (∀ h', Le h h' → Q (.ret r) h') → C f args h Q
theorem xo_pure {f : FuncId} {args : List Value} {r : Value} {K : Value → AH → Prop} {Kp : Value → AH → Prop} {h : AH} (H : Pure f args r) (hk : ∀ h', Le h h' → K r h') : C f args h (outK K Kp) := H h _ fun h' hl => hk h' hl
/-! ### small functions -/
def restZ (x n : Int) : Int := (x.tmod n + n).tmod n
theorem tmod_lo (x n : Int) (h : 0 < n) : -n < x.tmod n := by
  have h1 := Int.tmod_lt_of_pos (-x) h
  rw [Int.neg_tmod] at h1
  omega
theorem restZ_lt (x n : Int) (h : 0 < n) : 0 ≤ restZ x n ∧ restZ x n < n := by
  have e3 := tmod_lo x n h
  unfold restZ
  exact ⟨Int.tmod_nonneg _ (by omega), Int.tmod_lt_of_pos _ h⟩
theorem rest_ok {x n : Int} {h : AH} {Q : AO → AH → Prop} (h0 : 0 < n) (h1 : n < 4611686018427387904) (hQ : Q (.ret (.int .i64 (restZ x n))) h) : C 25 [.int .i64 x, .int .i64 n] h Q := by
  refine run_25 rfl ?_
  have e1 : n ≠ 0 := by omega
  have e2 := Int.tmod_lt_of_pos x h0
  have e3 := tmod_lo x n h0
  refine w_seq (w_region ?_)
  refine xo_val rfl rfl ⟨⟩ ?_
  refine xo_nil (t_norm ?_)
  refine w_seq (w_region ?_)
  refine xo_val rfl rfl ⟨⟩ ?_
  refine xo_val rfl rfl ⟨⟩ ?_
  refine xo_val rfl (a_bin rfl rfl (bin_rem _ _ _ _ _ (by first | decide | omega))) ⟨⟩ ?_
  refine xo_val rfl rfl ⟨⟩ ?_
  refine xo_val rfl (a_bin rfl rfl (bin_add64 _ _ _ _ (by omega))) ⟨⟩ ?_
  refine xo_val rfl rfl ⟨⟩ ?_
  refine xo_val rfl (a_bin rfl rfl (bin_rem _ _ _ _ _ (by first | decide | omega))) ⟨⟩ ?_
  refine xo_val rfl rfl ⟨⟩ ?_
  refine xo_nil (t_norm ?_)
  exact w_ret (ret_of rfl hQ)
def configV (q o : Int) : Value := .agg #[.int .i64 0, .int .i64 0, .int .i64 0, .int .i64 q, .int .i64 0, .int .i64 o, .int .i64 0]
theorem config_ok {a b : Int} {h : AH} {Q : AO → AH → Prop} (hQ : ∀ h', Le h h' → Q (.ret (configV (1 + restZ a 4) (1 + restZ b 6))) h') : C 9 [.agg #[.int .i64 a, .int .i64 b]] h Q := by
  refine run_9 rfl ?_
  have e1 := restZ_lt a 4 (by decide)
  have e2 := restZ_lt b 6 (by decide)
  refine w_seq (w_region ?_)
  refine xo_val rfl (a_box rfl rfl) ⟨⟩ ?_
  refine xo_val rfl (a_alloc rfl) ⟨⟩ ?_
  refine xo_nil (t_norm ?_)
  refine w_seq (w_region ?_)
  first | refine xo_val rfl (a_ix_ps rfl rfl rfl rfl rfl rfl (by omega) (by assumption)) ⟨⟩ ?_ | refine xo_val rfl (a_ixs rfl rfl rfl rfl rfl (by omega)) ⟨⟩ ?_ | refine xo_val rfl (a_ixa rfl rfl rfl rfl rfl (by omega)) ⟨⟩ ?_
  first | refine xo_val rfl (a_load_pp rfl rfl rfl rfl) ⟨⟩ ?_ | refine xo_val rfl (a_load rfl rfl rfl (cell_of (by repeat' first | assumption | exact AH.get_push_new _ _ | exact AH.get_push_at (by first | (simp only [AH.n_push, AH.n_set]; done) | (simp only [AH.n_push, AH.n_set]; rfl)) | refine AH.get_push_old ?_ _ | apply get_same | refine get_other ?_ (by first | assumption | omega | (simp only [AH.n_push, AH.n_set]; omega) | (dsimp only; omega) | (dsimp only; simp only [AH.n_push, AH.n_set]; omega)) | refine Le.get (by assumption) ?_) rfl rfl)) ⟨⟩ ?_
  first | refine xo_val rfl (a_ix_ps rfl rfl rfl rfl rfl rfl (by omega) (by assumption)) ⟨⟩ ?_ | refine xo_val rfl (a_ixs rfl rfl rfl rfl rfl (by omega)) ⟨⟩ ?_ | refine xo_val rfl (a_ixa rfl rfl rfl rfl rfl (by omega)) ⟨⟩ ?_
  first | refine xo_val rfl (a_load_pp rfl rfl rfl rfl) ⟨⟩ ?_ | refine xo_val rfl (a_load rfl rfl rfl (cell_of (by repeat' first | assumption | exact AH.get_push_new _ _ | exact AH.get_push_at (by first | (simp only [AH.n_push, AH.n_set]; done) | (simp only [AH.n_push, AH.n_set]; rfl)) | refine AH.get_push_old ?_ _ | apply get_same | refine get_other ?_ (by first | assumption | omega | (simp only [AH.n_push, AH.n_set]; omega) | (dsimp only; omega) | (dsimp only; simp only [AH.n_push, AH.n_set]; omega)) | refine Le.get (by assumption) ?_) rfl rfl)) ⟨⟩ ?_
  refine xo_call rfl rfl (rest_ok (by decide) (by decide) ?_)
  refine ⟨⟨fun _ => a_load rfl rfl rfl (cell_of (AH.get_push_old (AH.get_push_new _ _) _) rfl rfl), ⟨⟩⟩, ?_⟩
  refine xo_val rfl (a_bin rfl rfl (bin_add64 _ _ _ _ (by omega))) ⟨⟩ ?_
  refine xo_call rfl rfl (rest_ok (by decide) (by decide) ?_)
  refine ⟨⟨⟩, ?_⟩
  refine xo_val rfl (a_bin rfl rfl (bin_add64 _ _ _ _ (by omega))) ⟨⟩ ?_
  refine xo_val rfl (a_struct (l := [_, _, _, _, _, _, _]) rfl rfl rfl rfl) ⟨⟩ ?_
  refine xo_val rfl (a_store rfl rfl rfl rfl rfl (store_of (by repeat' first | assumption | exact AH.get_push_new _ _ | exact AH.get_push_at (by first | (simp only [AH.n_push, AH.n_set]; done) | (simp only [AH.n_push, AH.n_set]; rfl)) | refine AH.get_push_old ?_ _ | apply get_same | refine get_other ?_ (by first | assumption | omega | (simp only [AH.n_push, AH.n_set]; omega) | (dsimp only; omega) | (dsimp only; simp only [AH.n_push, AH.n_set]; omega)) | refine Le.get (by assumption) ?_) rfl rfl)) ⟨⟩ ?_
  refine xo_nil (t_norm (w_ret ?_))
  refine ret_of (rs_cell rfl rfl rfl (cells_of (get_same (AH.get_push_new _ _)) rfl rfl rfl) rs_nil) ?_
  refine hQ _ ?_
  exact (((Le.refl h).push _).push _).set (Nat.le_succ _) _
theorem new_ok {q o : Int} {h : AH} {Q : AO → AH → Prop} (hq : 1 ≤ q ∧ q ≤ 4096) (ho : 1 ≤ o ∧ o ≤ 4096)
    (hQ : ∀ h' d m, Le h h' → h.n ≤ d → h.n ≤ m → d ≠ m → h'.get d = some (.row [.int .i64 0, .int .i64 0, .int .i64 0, .int .i64 q, .int .i64 0, .int .i64 o, .int .i64 0, .map (some m)] true 0) → h'.get m = some (.map [] [] 0) → Q (.ret (.pointer (some ⟨d, 0, none⟩))) h') :
    C 8 [configV q o] h Q := by
  refine run_8 rfl ?_
  have q1 : decide (q < 1) = false := by simp; omega
  have q2 : decide (q > 4096) = false := by simp; omega
  have o1 : decide (o < 1) = false := by simp; omega
  have o2 : decide (o > 4096) = false := by simp; omega
  refine w_seq (w_region ?_)
  refine xo_val rfl (a_box rfl rfl) ⟨⟩ ?_
  refine xo_val rfl rfl ⟨⟩ ?_
  refine xo_nil (t_norm ?_)
  refine w_seq ?_
  refine w_seq (w_region ?_)
  refine xo_val rfl rfl ⟨⟩ ?_
  first | refine xo_val rfl (a_load_pp rfl rfl rfl rfl) ⟨⟩ ?_ | refine xo_val rfl (a_load rfl rfl rfl (cell_of (by repeat' first | assumption | exact AH.get_push_new _ _ | exact AH.get_push_at (by first | (simp only [AH.n_push, AH.n_set]; done) | (simp only [AH.n_push, AH.n_set]; rfl)) | refine AH.get_push_old ?_ _ | apply get_same | refine get_other ?_ (by first | assumption | omega | (simp only [AH.n_push, AH.n_set]; omega) | (dsimp only; omega) | (dsimp only; simp only [AH.n_push, AH.n_set]; omega)) | refine Le.get (by assumption) ?_) rfl rfl)) ⟨⟩ ?_
  refine xo_val rfl (a_bin rfl rfl (bin_lss _ _ _ _ _)) ⟨⟩ ?_
  refine xo_val rfl rfl ⟨⟩ ?_
  first | refine xo_skip (want_no rfl (by first | rfl | assumption)) ?_ | refine xo_skip rfl ?_ | refine xo_val (want_if rfl (by first | rfl | assumption)) rfl ⟨⟩ ?_
  first | refine xo_skip (want_no rfl (by first | rfl | assumption)) ?_ | refine xo_skip rfl ?_ | refine xo_val (want_if rfl (by first | rfl | assumption)) (a_load_pp rfl rfl rfl rfl) ⟨⟩ ?_ | refine xo_val (want_if rfl (by first | rfl | assumption)) (a_load rfl rfl rfl (cell_of (by repeat' first | assumption | exact AH.get_push_new _ _ | exact AH.get_push_at (by first | (simp only [AH.n_push, AH.n_set]; done) | (simp only [AH.n_push, AH.n_set]; rfl)) | refine AH.get_push_old ?_ _ | apply get_same | refine get_other ?_ (by first | assumption | omega | (simp only [AH.n_push, AH.n_set]; omega) | (dsimp only; omega) | (dsimp only; simp only [AH.n_push, AH.n_set]; omega)) | refine Le.get (by assumption) ?_) rfl rfl)) ⟨⟩ ?_
  first | refine xo_skip (want_no rfl (by first | rfl | assumption)) ?_ | refine xo_skip rfl ?_ | refine xo_val (want_if rfl (by first | rfl | assumption)) (a_bin rfl rfl (bin_gtr _ _ _ _ _)) ⟨⟩ ?_
  first | refine xo_val rfl (a_pick_t rfl (by first | rfl | assumption) rfl) ⟨⟩ ?_ | refine xo_val rfl (a_pick_f rfl (by first | rfl | assumption) rfl) ⟨⟩ ?_
  refine xo_val rfl rfl ⟨⟩ ?_
  first | refine xo_skip (want_no rfl (by first | rfl | assumption)) ?_ | refine xo_skip rfl ?_ | refine xo_val (want_if rfl (by first | rfl | assumption)) rfl ⟨⟩ ?_
  first | refine xo_skip (want_no rfl (by first | rfl | assumption)) ?_ | refine xo_skip rfl ?_ | refine xo_val (want_if rfl (by first | rfl | assumption)) (a_load_pp rfl rfl rfl rfl) ⟨⟩ ?_ | refine xo_val (want_if rfl (by first | rfl | assumption)) (a_load rfl rfl rfl (cell_of (by repeat' first | assumption | exact AH.get_push_new _ _ | exact AH.get_push_at (by first | (simp only [AH.n_push, AH.n_set]; done) | (simp only [AH.n_push, AH.n_set]; rfl)) | refine AH.get_push_old ?_ _ | apply get_same | refine get_other ?_ (by first | assumption | omega | (simp only [AH.n_push, AH.n_set]; omega) | (dsimp only; omega) | (dsimp only; simp only [AH.n_push, AH.n_set]; omega)) | refine Le.get (by assumption) ?_) rfl rfl)) ⟨⟩ ?_
  first | refine xo_skip (want_no rfl (by first | rfl | assumption)) ?_ | refine xo_skip rfl ?_ | refine xo_val (want_if rfl (by first | rfl | assumption)) (a_bin rfl rfl (bin_lss _ _ _ _ _)) ⟨⟩ ?_
  first | refine xo_val rfl (a_pick_t rfl (by first | rfl | assumption) rfl) ⟨⟩ ?_ | refine xo_val rfl (a_pick_f rfl (by first | rfl | assumption) rfl) ⟨⟩ ?_
  refine xo_val rfl rfl ⟨⟩ ?_
  first | refine xo_skip (want_no rfl (by first | rfl | assumption)) ?_ | refine xo_skip rfl ?_ | refine xo_val (want_if rfl (by first | rfl | assumption)) rfl ⟨⟩ ?_
  first | refine xo_skip (want_no rfl (by first | rfl | assumption)) ?_ | refine xo_skip rfl ?_ | refine xo_val (want_if rfl (by first | rfl | assumption)) (a_load_pp rfl rfl rfl rfl) ⟨⟩ ?_ | refine xo_val (want_if rfl (by first | rfl | assumption)) (a_load rfl rfl rfl (cell_of (by repeat' first | assumption | exact AH.get_push_new _ _ | exact AH.get_push_at (by first | (simp only [AH.n_push, AH.n_set]; done) | (simp only [AH.n_push, AH.n_set]; rfl)) | refine AH.get_push_old ?_ _ | apply get_same | refine get_other ?_ (by first | assumption | omega | (simp only [AH.n_push, AH.n_set]; omega) | (dsimp only; omega) | (dsimp only; simp only [AH.n_push, AH.n_set]; omega)) | refine Le.get (by assumption) ?_) rfl rfl)) ⟨⟩ ?_
  first | refine xo_skip (want_no rfl (by first | rfl | assumption)) ?_ | refine xo_skip rfl ?_ | refine xo_val (want_if rfl (by first | rfl | assumption)) (a_bin rfl rfl (bin_gtr _ _ _ _ _)) ⟨⟩ ?_
  first | refine xo_val rfl (a_pick_t rfl (by first | rfl | assumption) rfl) ⟨⟩ ?_ | refine xo_val rfl (a_pick_f rfl (by first | rfl | assumption) rfl) ⟨⟩ ?_
  refine xo_nil (t_norm ?_)
  refine w_cond rfl (fun e => absurd (e.symm.trans o2) (by simp)) fun _ => ?_
  refine w_skip (t_norm (w_seq (w_region ?_)))
  first | refine xo_val rfl (a_loads_pp rfl rfl rfl rfl) ⟨⟩ ?_ | refine xo_val rfl (a_loads rfl rfl rfl (cells_of (by repeat' first | assumption | exact AH.get_push_new _ _ | exact AH.get_push_at (by first | (simp only [AH.n_push, AH.n_set]; done) | (simp only [AH.n_push, AH.n_set]; rfl)) | refine AH.get_push_old ?_ _ | apply get_same | refine get_other ?_ (by first | assumption | omega | (simp only [AH.n_push, AH.n_set]; omega) | (dsimp only; omega) | (dsimp only; simp only [AH.n_push, AH.n_set]; omega)) | refine Le.get (by assumption) ?_) rfl rfl rfl)) ⟨⟩ ?_
  refine xo_val rfl rfl ⟨⟩ ?_
  refine xo_val rfl (a_struct (l := [_, _, _, _, _, _, _, _]) rfl rfl rfl rfl) ⟨⟩ ?_
  refine xo_val rfl (a_box rfl rfl) ⟨⟩ ?_
  refine xo_val rfl rfl ⟨⟩ ?_
  refine xo_nil (t_norm (w_ret ?_))
  refine ret_of rfl ?_
  refine hQ _ _ _ ((((Le.refl h).push _).push _).push _) ?_ ?_ ?_ (AH.get_push_new _ _) (AH.get_push_old (AH.get_push_new _ _) _)
  · simp only [AH.n_push]; omega
  · simp only [AH.n_push]; omega
  · simp only [AH.n_push]; omega
theorem hit_ok (id n : Int) : Pure 23 [.int .i64 id, .int .i64 n] (hitV ⟨id, ⟨[[n]], [⟨n, 0⟩]⟩⟩) := by
  intro h Q hQ
  refine run_23 rfl ?_
  refine w_seq (w_region ?_)
  refine xo_val rfl (a_alloc rfl) ⟨⟩ ?_
  refine xo_nil (t_norm ?_)
  refine w_seq (w_region ?_)
  refine xo_val rfl rfl ⟨⟩ ?_
  refine xo_val rfl rfl ⟨⟩ ?_
  refine xo_val rfl (a_list (l := [_]) rfl rfl rfl rfl rfl) ⟨⟩ ?_
  refine xo_val rfl (a_list (l := [_]) rfl rfl rfl rfl rfl) ⟨⟩ ?_
  refine xo_val rfl rfl ⟨⟩ ?_
  refine xo_val rfl (a_struct (l := [_, _]) rfl rfl rfl rfl) ⟨⟩ ?_
  refine xo_val rfl (a_list (l := [_, _]) rfl rfl rfl rfl rfl) ⟨⟩ ?_
  refine xo_val rfl (a_struct (l := [_, _]) rfl rfl rfl rfl) ⟨⟩ ?_
  refine xo_val rfl (a_struct (l := [_, _, _]) rfl rfl rfl rfl) ⟨⟩ ?_
  refine xo_val rfl (a_store rfl rfl rfl rfl rfl (store_of (by repeat' first | assumption | exact AH.get_push_new _ _ | exact AH.get_push_at (by first | (simp only [AH.n_push, AH.n_set]; done) | (simp only [AH.n_push, AH.n_set]; rfl)) | refine AH.get_push_old ?_ _ | apply get_same | refine get_other ?_ (by first | assumption | omega | (simp only [AH.n_push, AH.n_set]; omega) | (dsimp only; omega) | (dsimp only; simp only [AH.n_push, AH.n_set]; omega)) | refine Le.get (by assumption) ?_) rfl rfl)) ⟨⟩ ?_
  refine xo_nil (t_norm ?_)
  have l1 : (AH.push h (.row (Value.agg #[.int .i64 0, .slice none 0 0, .slice none 0 0]).cells.toList true 0)).n = h.n + 1 := rfl
  refine w_ret (ret_give (rs_cell rfl rfl rfl (cells_of (get_same (AH.get_push_old (AH.get_push_old (AH.get_push_old (AH.get_push_new _ _) _) _) _)) rfl rfl rfl) rs_nil)
    (Gs.trans (Gs.up (b := h.n + 1) (c := h.n + 2) (k := 1) (get_other (AH.get_push_old (AH.get_push_old (AH.get_push_new _ _) _) _) (by first | omega | (simp only [AH.n_push, AH.n_set]; omega) | (dsimp only; omega) | (dsimp only; simp only [AH.n_push, AH.n_set]; omega))) (fun _ => .refl _) (get_other (AH.get_push_old (AH.get_push_new _ _) _) (by first | omega | (simp only [AH.n_push, AH.n_set]; omega) | (dsimp only; omega) | (dsimp only; simp only [AH.n_push, AH.n_set]; omega))) (by first | omega | (simp only [AH.n_push, AH.n_set]; omega) | (dsimp only; omega) | (dsimp only; simp only [AH.n_push, AH.n_set]; omega)) (OFZ.rowL (.cons (FZ.flat (els := [intV n]) (sz_int [n])) .nil)))
    (Gs.trans (Gs.one (b := h.n + 2) (k := 1) (AH.get_push_old (get_same (get_other (get_other (AH.get_push_old (AH.get_push_new _ _) _) (by first | omega | (simp only [AH.n_push, AH.n_set]; omega) | (dsimp only; omega) | (dsimp only; simp only [AH.n_push, AH.n_set]; omega))) (by first | omega | (simp only [AH.n_push, AH.n_set]; omega) | (dsimp only; omega) | (dsimp only; simp only [AH.n_push, AH.n_set]; omega)))) _) (fun _ => FZ.aggL (.cons (.refl _) (.cons (FZ.flat (els := [intsV [n]]) (sz_ints [[n]])) (.cons (.refl _) .nil)))))
    (Gs.one (b := h.n + 3) (k := 2) (AH.get_push_old (get_other (AH.get_push_old (get_other (get_other (get_other (AH.get_push_new _ _) (by first | omega | (simp only [AH.n_push, AH.n_set]; omega) | (dsimp only; omega) | (dsimp only; simp only [AH.n_push, AH.n_set]; omega))) (by first | omega | (simp only [AH.n_push, AH.n_set]; omega) | (dsimp only; omega) | (dsimp only; simp only [AH.n_push, AH.n_set]; omega))) (by first | omega | (simp only [AH.n_push, AH.n_set]; omega) | (dsimp only; omega) | (dsimp only; simp only [AH.n_push, AH.n_set]; omega))) _) (by first | omega | (simp only [AH.n_push, AH.n_set]; omega) | (dsimp only; omega) | (dsimp only; simp only [AH.n_push, AH.n_set]; omega))) _) (fun _ => FZ.aggL (.cons (.refl _) (.cons (.refl _) (.cons (FZ.flat (els := [refV ⟨n, 0⟩]) (sz_ref [⟨n, 0⟩])) .nil)))))))
    (hQ _ ?_))
  exact (((((((((((((Le.refl h).push _).push _).push _).push _).set (Nat.le_refl _) _).set (by first | omega | (simp only [AH.n_push, AH.n_set]; omega) | (dsimp only; omega) | (dsimp only; simp only [AH.n_push, AH.n_set]; omega)) _).set (by first | omega | (simp only [AH.n_push, AH.n_set]; omega) | (dsimp only; omega) | (dsimp only; simp only [AH.n_push, AH.n_set]; omega)) _).push _).set (by first | omega | (simp only [AH.n_push, AH.n_set]; omega) | (dsimp only; omega) | (dsimp only; simp only [AH.n_push, AH.n_set]; omega)) _).push _).set (by first | omega | (simp only [AH.n_push, AH.n_set]; omega) | (dsimp only; omega) | (dsimp only; simp only [AH.n_push, AH.n_set]; omega)) _).push _)
end Go.AI.Q
