/-
  THE QUEUE'S LAWS: the chapter's example, run. (Own work; steps printed by wip/gen/walk.py.)
-/
import Derived.Test.YtkabedbkkbijhaaB22
namespace Go.AI.Q
open Go Go.AI Go.Proofs
attribute [local irreducible] xOps xw
theorem sane1 (d : DeskM) (h : d.o ≤ 4096 ∧ ∀ l ∈ d.lines, l.row.length ≤ 10 ∧ (l.row.map fun f => f.refs.length).sum ≤ 10) : Sane d := ⟨h.1, fun l hl => by have := h.2 l hl; omega⟩
theorem awake_tail {h12 : AH} {fr : Fr} {p2 p6 p8 : Nat} {Q : AO → AH → Prop} (c212 : h12.get p2 = some (.row (ansV 0 1 []).cells.toList true 0)) (c612 : h12.get p6 = some (.row (ansV 0 0 [[[5]]]).cells.toList true 0)) (c8 : h12.get p8 = some (.row (ansV 20 0 []).cells.toList true 0))
    (hQ : ∀ h', Le h12 h' → Q (.ret (.bool true)) h') (f2 : fr 2 = .pointer (some ⟨p2, 0, none⟩)) (f6 : fr 6 = .pointer (some ⟨p6, 0, none⟩)) (f8 : fr 8 = .pointer (some ⟨p8, 0, none⟩)) (f5 : fr 5 = refsV [⟨6, 0⟩, ⟨9, 0⟩]) (f7 : fr 7 = refsV [⟨5, 0⟩]) :
    xw tab C Y ((XC.region x7_6).seq ((XC.region x7_7).seq ((XC.region x7_8).seq ((XC.region x7_9).seq XC.ret)))) fr h12 (retQ tab [ResultVar.tmp 0] Q) := by
  rw [← fr_fix f2, ← fr_fix f6, ← fr_fix f8, ← fr_fix f5, ← fr_fix f7]
  refine w_seq (w_region ?_)
  refine xo_val rfl rfl ⟨⟩ ?_
  refine xo_val rfl (a_struct (l := [_, _]) rfl rfl rfl rfl) ⟨⟩ ?_
  refine xo_val rfl (a_struct (l := [_, _]) rfl rfl rfl rfl) ⟨⟩ ?_
  refine xo_val rfl (a_list (l := [_, _, _, _]) rfl rfl rfl rfl rfl) ⟨⟩ ?_
  have r1 := AH.get_push_new h12 (.row (flat ([⟨6, 0⟩, ⟨9, 0⟩].map refV)) true 2)
  have hle13 := (((Le.refl h12).push (.row (flat ([⟨6, 0⟩, ⟨9, 0⟩].map refV)) true 2)).set (B := h12.n) (Nat.le_refl _) .dead).push .dead
  refine xo_call rfl rfl (AC.give (args2 := [refsV [⟨6, 0⟩, ⟨9, 0⟩], refsV [⟨6, 0⟩, ⟨9, 0⟩]]) (Gs.one (k := 2) r1 (FZ.args (.cons (.refl _) (.cons (FZ.flat (sz_ref [⟨6, 0⟩, ⟨9, 0⟩])) .nil)))) rfl (sameRefs_ok _ _ (by decide) (by decide) _ _ fun h14 r hle14 ⟨n, hr, hn⟩ => ⟨⟨⟩, ?_⟩))
  obtain rfl := hr
  obtain rfl := hn (.refl _)
  refine xo_val rfl rfl ⟨⟩ ?_
  refine xo_nil (t_norm ?_)
  refine w_seq (w_region ?_)
  refine xo_val rfl rfl ⟨⟩ ?_
  refine xo_val rfl (a_struct (l := [_, _]) rfl rfl rfl rfl) ⟨⟩ ?_
  refine xo_val rfl (a_list (l := [_, _]) rfl rfl rfl rfl rfl) ⟨⟩ ?_
  have r2 := AH.get_push_new h14 (.row (flat ([⟨5, 0⟩].map refV)) true 2)
  have hle15 := (((Le.refl h14).push (.row (flat ([⟨5, 0⟩].map refV)) true 2)).set (B := h14.n) (Nat.le_refl _) .dead).push .dead
  refine xo_call rfl rfl (AC.give (args2 := [refsV [⟨5, 0⟩], refsV [⟨5, 0⟩]]) (Gs.one (k := 2) r2 (FZ.args (.cons (.refl _) (.cons (FZ.flat (sz_ref [⟨5, 0⟩])) .nil)))) rfl (sameRefs_ok _ _ (by decide) (by decide) _ _ fun h16 r hle16 ⟨n, hr, hn⟩ => ⟨⟨⟩, ?_⟩))
  obtain rfl := hr
  obtain rfl := hn (.refl _)
  refine xo_val rfl rfl ⟨⟩ ?_
  refine xo_nil (t_norm ?_)
  have hle1216 := (hle13.trans hle14).trans (hle15.trans hle16)
  have c616 := hle1216.get c612
  refine w_seq (w_region ?_)
  refine xo_val rfl rfl ⟨⟩ ?_
  first | refine xo_val rfl (a_load_pp rfl rfl rfl rfl) ⟨⟩ ?_ | refine xo_val rfl (a_load rfl rfl rfl (cell_of (by repeat' first | assumption | exact AH.get_push_new _ _ | exact AH.get_push_at (by first | (simp only [AH.n_push, AH.n_set]; done) | (simp only [AH.n_push, AH.n_set]; rfl)) | refine AH.get_push_old ?_ _ | apply get_same | refine get_other ?_ (by first | assumption | omega | (simp only [AH.n_push, AH.n_set]; omega) | (dsimp only; omega) | (dsimp only; simp only [AH.n_push, AH.n_set]; omega)) | refine Le.get (by assumption) ?_) rfl rfl)) ⟨⟩ ?_
  refine xo_val rfl (a_list (l := [_]) rfl rfl rfl rfl rfl) ⟨⟩ ?_
  refine xo_val rfl (a_list (l := [_]) rfl rfl rfl rfl rfl) ⟨⟩ ?_
  refine xo_val rfl (a_list (l := [_]) rfl rfl rfl rfl rfl) ⟨⟩ ?_
  have q0 : (((h16.push (.row [.int .i64 5] true 1)).push (.row [.slice (some ⟨h16.n, 0, none⟩) 1 2] true 1)).push (.row [.slice (some ⟨h16.n + 1, 0, none⟩) 1 2] true 1)).get h16.n = some (.row (flat [intV 5]) true 1) := AH.get_push_old (AH.get_push_old (AH.get_push_new _ _) _) _
  have q1 : (((h16.push (.row [.int .i64 5] true 1)).push (.row [.slice (some ⟨h16.n, 0, none⟩) 1 2] true 1)).push (.row [.slice (some ⟨h16.n + 1, 0, none⟩) 1 2] true 1)).get (h16.n + 1) = some (.row [.slice (some ⟨h16.n, 0, none⟩) 1 2] true 1) := AH.get_push_old (AH.get_push_new _ _) _
  have q2 : (((h16.push (.row [.int .i64 5] true 1)).push (.row [.slice (some ⟨h16.n, 0, none⟩) 1 2] true 1)).push (.row [.slice (some ⟨h16.n + 1, 0, none⟩) 1 2] true 1)).get (h16.n + 2) = some (.row [.slice (some ⟨h16.n + 1, 0, none⟩) 1 2] true 1) := AH.get_push_new _ _
  have hle17 := (((Le.refl h16).push (.row [.int .i64 5] true 1)).push (.row [.slice (some ⟨h16.n, 0, none⟩) 1 2] true 1)).push (.row [.slice (some ⟨h16.n + 1, 0, none⟩) 1 2] true 1)
  have n17 : (((h16.push (.row [.int .i64 5] true 1)).push (.row [.slice (some ⟨h16.n, 0, none⟩) 1 2] true 1)).push (.row [.slice (some ⟨h16.n + 1, 0, none⟩) 1 2] true 1)).n = h16.n + 3 := rfl
  have y1 : OFZ h16.n (flat [intV 5]) 1 (.row [.slice (some ⟨h16.n, 0, none⟩) 1 2] true 1) (.row (flat [intsV [5]]) true 1) := OFZ.rowL (.cons (FZ.flat (els := [intV 5]) (sz_int [5])) .nil)
  have y2 : OFZ (h16.n + 1) (flat [intsV [5]]) 1 (.row [.slice (some ⟨h16.n + 1, 0, none⟩) 1 2] true 1) (.row (flat [setsV [[5]]]) true 1) := OFZ.rowL (.cons (FZ.flat (els := [intsV [5]]) (sz_ints [[5]])) .nil)
  have p1 := AH.get_push_old (get_same (p := .row (flat [intsV [5]]) true 1) (get_other (p := AObj.dead) q1 (show h16.n + 1 ≠ h16.n by omega))) .dead
  have p2 := AH.get_push_old (get_other (p := .row (flat [intsV [5]]) true 1) (get_other (p := AObj.dead) q2 (show h16.n + 2 ≠ h16.n by omega)) (show h16.n + 2 ≠ h16.n + 1 by omega)) .dead
  have p3 := AH.get_push_old (get_same (p := .row (flat [setsV [[5]]]) true 1) (get_other (p := AObj.dead) p2 (show h16.n + 2 ≠ h16.n + 1 by omega))) .dead
  have hle18 := (((((((hle17.set (B := h16.n) (Nat.le_refl _) AObj.dead).set (B := h16.n + 1) (by omega) (.row (flat [intsV [5]]) true 1)).push .dead).set (B := h16.n + 1) (by omega) AObj.dead).set (B := h16.n + 2) (by omega) (.row (flat [setsV [[5]]]) true 1)).push .dead).set (B := h16.n + 2) (by omega) AObj.dead).push .dead
  refine xo_call rfl rfl (AC.give (args2 := [matchesV [[[5]]], matchesV [[[5]]]]) (Gs.trans (Gs.up (k := 1) q0 (fun t => .refl _) q1 (by omega) y1) (Gs.trans (Gs.up (k := 1) p1 (fun t => .refl _) p2 (by omega) y2) (Gs.one (k := 1) p3 (FZ.args (.cons (.refl _) (.cons (FZ.flat (sz_sets [[[5]]])) .nil)))))) rfl
    (same_ok [[[5]]] [[[5]]] ⟨by decide, by simp [Small]⟩ ⟨by decide, by simp [Small]⟩ _ _ fun h19 r hle19 ⟨n, hr, hn⟩ => ⟨⟨⟩, ?_⟩))
  obtain rfl := hr
  obtain rfl := hn rfl
  refine xo_val rfl rfl ⟨⟩ ?_
  refine xo_nil (t_norm ?_)
  have hle1219 := hle1216.trans (hle18.trans hle19)
  have c219 := hle1219.get c212
  have c819 := hle1219.get c8
  refine w_seq (w_region ?_)
  refine xo_val rfl rfl ⟨⟩ ?_
  first | refine xo_val rfl (a_load_pp rfl rfl rfl rfl) ⟨⟩ ?_ | refine xo_val rfl (a_load rfl rfl rfl (cell_of (by repeat' first | assumption | exact AH.get_push_new _ _ | exact AH.get_push_at (by first | (simp only [AH.n_push, AH.n_set]; done) | (simp only [AH.n_push, AH.n_set]; rfl)) | refine AH.get_push_old ?_ _ | apply get_same | refine get_other ?_ (by first | assumption | omega | (simp only [AH.n_push, AH.n_set]; omega) | (dsimp only; omega) | (dsimp only; simp only [AH.n_push, AH.n_set]; omega)) | refine Le.get (by assumption) ?_) rfl rfl)) ⟨⟩ ?_
  first | refine xo_val rfl (a_bin rfl rfl (bin_eql _ _ _ _ _)) ⟨⟩ ?_ | refine xo_val rfl rfl ⟨⟩ ?_
  refine xo_val rfl rfl ⟨⟩ ?_
  first | refine xo_skip (want_no rfl (by first | rfl | assumption)) ?_ | refine xo_skip rfl ?_ | refine xo_val (want_if rfl (by first | rfl | assumption)) rfl ⟨⟩ ?_
  first | refine xo_val rfl (a_pick_t rfl (by first | rfl | assumption) rfl) ⟨⟩ ?_ | refine xo_val rfl (a_pick_f rfl (by first | rfl | assumption) rfl) ⟨⟩ ?_
  refine xo_val rfl rfl ⟨⟩ ?_
  first | refine xo_skip (want_no rfl (by first | rfl | assumption)) ?_ | refine xo_skip rfl ?_ | refine xo_val (want_if rfl (by first | rfl | assumption)) rfl ⟨⟩ ?_
  first | refine xo_val rfl (a_pick_t rfl (by first | rfl | assumption) rfl) ⟨⟩ ?_ | refine xo_val rfl (a_pick_f rfl (by first | rfl | assumption) rfl) ⟨⟩ ?_
  refine xo_val rfl rfl ⟨⟩ ?_
  first | refine xo_skip (want_no rfl (by first | rfl | assumption)) ?_ | refine xo_skip rfl ?_ | refine xo_val (want_if rfl (by first | rfl | assumption)) rfl ⟨⟩ ?_
  first | refine xo_val rfl (a_pick_t rfl (by first | rfl | assumption) rfl) ⟨⟩ ?_ | refine xo_val rfl (a_pick_f rfl (by first | rfl | assumption) rfl) ⟨⟩ ?_
  refine xo_val rfl rfl ⟨⟩ ?_
  first | refine xo_skip (want_no rfl (by first | rfl | assumption)) ?_ | refine xo_skip rfl ?_ | refine xo_val (want_if rfl (by first | rfl | assumption)) rfl ⟨⟩ ?_
  first | refine xo_skip (want_no rfl (by first | rfl | assumption)) ?_ | refine xo_skip rfl ?_ | refine xo_val (want_if rfl (by first | rfl | assumption)) (a_load_pp rfl rfl rfl rfl) ⟨⟩ ?_ | refine xo_val (want_if rfl (by first | rfl | assumption)) (a_load rfl rfl rfl (cell_of (by repeat' first | assumption | exact AH.get_push_new _ _ | exact AH.get_push_at (by first | (simp only [AH.n_push, AH.n_set]; done) | (simp only [AH.n_push, AH.n_set]; rfl)) | refine AH.get_push_old ?_ _ | apply get_same | refine get_other ?_ (by first | assumption | omega | (simp only [AH.n_push, AH.n_set]; omega) | (dsimp only; omega) | (dsimp only; simp only [AH.n_push, AH.n_set]; omega)) | refine Le.get (by assumption) ?_) rfl rfl)) ⟨⟩ ?_
  first | refine xo_skip (want_no rfl (by first | rfl | assumption)) ?_ | refine xo_skip rfl ?_ | refine xo_val (want_if rfl (by first | rfl | assumption)) (a_bin rfl rfl (bin_eql _ _ _ _ _)) ⟨⟩ ?_ | refine xo_val (want_if rfl (by first | rfl | assumption)) rfl ⟨⟩ ?_
  first | refine xo_val rfl (a_pick_t rfl (by first | rfl | assumption) rfl) ⟨⟩ ?_ | refine xo_val rfl (a_pick_f rfl (by first | rfl | assumption) rfl) ⟨⟩ ?_
  refine xo_val rfl rfl ⟨⟩ ?_
  refine xo_nil (t_norm ?_)
  exact w_ret (ret_of rfl (hQ _ hle1219))
set_option maxHeartbeats 4000000 in
theorem awake_ok : Pure 7 [] (.bool true) := by
  intro h Q hQ
  refine run_7 rfl ?_
  refine w_seq (w_region ?_)
  refine xo_val rfl rfl ⟨⟩ ?_
  refine xo_nil (t_norm ?_)
  refine w_seq (w_region ?_)
  refine xo_val rfl (a_struct (l := [_, _, _, _, _, _, _]) rfl rfl rfl rfl) ⟨⟩ ?_
  refine xo_call rfl rfl (dk_new (q := 2) (o := 1) (by decide) (by decide) fun h1 D F1 hle1 R1 hF1 => ⟨⟨⟩, ?_⟩)
  refine xo_val rfl rfl ⟨⟩ ?_
  refine xo_nil (t_norm ?_)
  refine w_seq (w_region ?_)
  refine xo_val rfl rfl ⟨⟩ ?_
  refine xo_val rfl (a_struct (l := [_, _, _, _, _, _, _, _, _, _, _, _, _, _]) rfl rfl rfl rfl) ⟨⟩ ?_
  refine xo_call rfl rfl (dk_do (c := ⟨2, 0, 0, ⟨0, 0⟩⟩) (outs := []) (d := e0) R1 (sane1 _ ⟨by decide, fun l hl => by cases hl⟩) (nilOuts _ (by decide)) (fun e => by cases e) rfl fun h2 F2 R2 W2 => ⟨⟨⟩, ?_⟩)
  rw [e1_eq] at R2 ⊢
  refine xo_val rfl rfl ⟨⟩ ?_
  refine xo_val rfl rfl ⟨⟩ ?_
  refine xo_val rfl rfl ⟨⟩ ?_
  refine xo_val rfl (a_alloc rfl) ⟨⟩ ?_
  refine xo_val rfl (a_store rfl rfl rfl rfl rfl (store_of (by repeat' first | assumption | exact AH.get_push_new _ _ | exact AH.get_push_at (by first | (simp only [AH.n_push, AH.n_set]; done) | (simp only [AH.n_push, AH.n_set]; rfl)) | refine AH.get_push_old ?_ _ | apply get_same | refine get_other ?_ (by first | assumption | omega | (simp only [AH.n_push, AH.n_set]; omega) | (dsimp only; omega) | (dsimp only; simp only [AH.n_push, AH.n_set]; omega)) | refine Le.get (by assumption) ?_) rfl rfl)) ⟨⟩ ?_
  refine xo_val rfl rfl ⟨⟩ ?_
  refine xo_nil (t_norm ?_)
  have hle2 : Le h h2 := ⟨Nat.le_trans hle1.1 W2.n, fun b o e => W2.keep b o (hle1.get e) fun hb => by have := hF1 b hb; have := AH.get_lt e; omega⟩
  have hF2 : ∀ b ∈ F2, h.n ≤ b := fun b hb => (W2.fp b hb).elim (hF1 b) fun x => Nat.le_trans hle1.1 x
  have hle3 := ((Le.refl h2).push (.row (Value.agg #[.int .i64 0, .int .i64 0, .slice none 0 0]).cells.toList true 0)).set (B := h2.n) (Nat.le_refl _) (.row (ansV 0 1 []).cells.toList true 0)
  have R3 := R2.le hle3
  have c2 := get_same (p := .row (ansV 0 1 []).cells.toList true 0) (AH.get_push_new h2 (.row (Value.agg #[.int .i64 0, .int .i64 0, .slice none 0 0]).cells.toList true 0))
  refine w_seq (w_region ?_)
  refine xo_val rfl rfl ⟨⟩ ?_
  refine xo_val rfl (a_struct (l := [_, _]) rfl rfl rfl rfl) ⟨⟩ ?_
  refine xo_val rfl (a_struct (l := [_, _, _, _, _, _, _, _, _, _, _, _, _, _]) rfl rfl rfl rfl) ⟨⟩ ?_
  refine xo_call rfl rfl (xo_pure (hit_ok 1 5) fun h4 hle4 => ⟨⟨⟩, ?_⟩)
  refine xo_call rfl rfl (xo_pure (hit_ok 1 6) fun h5 hle5 => ⟨⟨⟩, ?_⟩)
  refine xo_val rfl (a_list (l := [_, _, _, _, _, _]) rfl rfl rfl rfl rfl) ⟨⟩ ?_
  refine xo_val rfl (a_struct (l := [_, _, _, _]) rfl rfl rfl rfl) ⟨⟩ ?_
  refine xo_val rfl (a_list (l := [_, _, _, _]) rfl rfl rfl rfl rfl) ⟨⟩ ?_
  have n5 : ((h5.push (.row (flat (o1.hits.map hitV)) true 3)).push (.row [.slice (some ⟨h5.n, 0, none⟩) 2 3, .slice none 0 0, .slice none 0 0, .slice none 0 0] true 4)).n = h5.n + 2 := rfl
  have g5 : ((h5.push (.row (flat (o1.hits.map hitV)) true 3)).push (.row [.slice (some ⟨h5.n, 0, none⟩) 2 3, .slice none 0 0, .slice none 0 0, .slice none 0 0] true 4)).get h5.n = some (.row (flat (o1.hits.map hitV)) true 3) := AH.get_push_old (AH.get_push_new _ _) _
  have g6 : ((h5.push (.row (flat (o1.hits.map hitV)) true 3)).push (.row [.slice (some ⟨h5.n, 0, none⟩) 2 3, .slice none 0 0, .slice none 0 0, .slice none 0 0] true 4)).get (h5.n + 1) = some (.row [.slice (some ⟨h5.n, 0, none⟩) 2 3, .slice none 0 0, .slice none 0 0, .slice none 0 0] true 4) := AH.get_push_new _ _
  have z1 : OFZ h5.n (flat (o1.hits.map hitV)) 3 (.row [.slice (some ⟨h5.n, 0, none⟩) 2 3, .slice none 0 0, .slice none 0 0, .slice none 0 0] true 4) (.row (flat ([o1].map outV)) true 4) :=
    OFZ.rowL (.cons (FZ.flat (sz_hit o1.hits)) (.cons (.nil 1) (.cons (.refl _) (.cons (.refl _) .nil))))
  have g7 := AH.get_push_old (get_same (p := .row (flat ([o1].map outV)) true 4) (get_other (p := AObj.dead) g6 (show h5.n + 1 ≠ h5.n by omega))) .dead
  have hle6 := ((((((Le.refl h5).push (.row (flat (o1.hits.map hitV)) true 3)).push (.row [.slice (some ⟨h5.n, 0, none⟩) 2 3, .slice none 0 0, .slice none 0 0, .slice none 0 0] true 4)).set (B := h5.n) (Nat.le_refl _) .dead).set (B := h5.n + 1) (by omega) (.row (flat ([o1].map outV)) true 4)).push .dead).set (B := h5.n + 1) (by omega) AObj.dead |>.push .dead
  have hle345 := hle3.trans ((hle4.trans hle5).trans hle6)
  refine xo_call rfl rfl (AC.give (args2 := [.pointer (some ⟨D, 0, none⟩), .int .i64 2, cmdOf ⟨1, 0, 0, ⟨9, 0⟩⟩, outsV [o1]]) (Gs.trans (Gs.up (k := 3) g5 (fun t => .refl _) g6 (by omega) z1) (Gs.one (k := 4) g7 (FZ.args (.cons (.refl _) (.cons (.refl _) (.cons (.refl _) (.cons (FZ.flat (sz_out [o1])) .nil))))))) rfl
    (dk_do (c := ⟨1, 0, 0, ⟨9, 0⟩⟩) (outs := [o1]) (d := e1) ((R3.le hle4).le hle5 |>.le hle6) (sane1 _ ⟨by decide, by decide⟩) ⟨fun _ => by simp, by simp, by decide, by decide⟩ (fun e => rfl) rfl fun h7 F7 R7 W7 => ⟨⟨⟩, ?_⟩))
  rw [e2_eq] at R7 ⊢
  refine xo_val rfl rfl ⟨⟩ ?_
  refine xo_val rfl rfl ⟨⟩ ?_
  refine xo_val rfl rfl ⟨⟩ ?_
  refine xo_val rfl (a_alloc rfl) ⟨⟩ ?_
  refine xo_val rfl (a_store rfl rfl rfl rfl rfl (store_of (by repeat' first | assumption | exact AH.get_push_new _ _ | exact AH.get_push_at (by first | (simp only [AH.n_push, AH.n_set]; done) | (simp only [AH.n_push, AH.n_set]; rfl)) | refine AH.get_push_old ?_ _ | apply get_same | refine get_other ?_ (by first | assumption | omega | (simp only [AH.n_push, AH.n_set]; omega) | (dsimp only; omega) | (dsimp only; simp only [AH.n_push, AH.n_set]; omega)) | refine Le.get (by assumption) ?_) rfl rfl)) ⟨⟩ ?_
  refine xo_val rfl rfl ⟨⟩ ?_
  refine xo_nil (t_norm ?_)
  have c27 := W7.keep h2.n _ (hle6.get (hle5.get (hle4.get c2))) (fun hm => by have := R2.lt _ hm; omega)
  have hF7 : ∀ b ∈ F7, h.n ≤ b ∧ b ≠ h2.n := fun b hb => by
    have q1 := hle345.1
    have q2 := hle2.1
    rcases W7.fp b hb with x | x
    · have := R2.lt b x; exact ⟨hF2 b x, by omega⟩
    · have q3 := (hle4.trans hle5).trans hle6
      have q4 := q3.1
      simp only [AH.n_set, AH.n_push] at q4 x ⊢
      exact ⟨by omega, by omega⟩
  have hle7 : Le h h7 := ⟨Nat.le_trans (hle2.trans hle345).1 W7.n, fun b o e => W7.keep b o ((hle2.trans hle345).get e) fun hb => by have := hF2 b hb; have := AH.get_lt e; omega⟩
  have hle8 := ((Le.refl h7).push (.row (Value.agg #[.int .i64 0, .int .i64 0, .slice none 0 0]).cells.toList true 0)).set (B := h7.n) (Nat.le_refl _) (.row (ansV 0 2 []).cells.toList true 0)
  refine w_seq (w_region ?_)
  refine xo_val rfl rfl ⟨⟩ ?_
  refine xo_val rfl (a_struct (l := [_, _, _, _, _, _, _, _, _, _, _, _, _, _]) rfl rfl rfl rfl) ⟨⟩ ?_
  refine xo_call rfl rfl (dk_do (c := ⟨4, 1, 5, ⟨0, 0⟩⟩) (outs := []) (d := e2) (R7.le hle8) (sane1 _ ⟨by decide, by decide⟩) (nilOuts _ (by decide)) (fun e => by cases e) rfl fun h9 F9 R9 W9 => ⟨⟨⟩, ?_⟩)
  rw [e3_eq] at R9 ⊢
  refine xo_val rfl rfl ⟨⟩ ?_
  refine xo_val rfl rfl ⟨⟩ ?_
  refine xo_val rfl rfl ⟨⟩ ?_
  refine xo_val rfl (a_alloc rfl) ⟨⟩ ?_
  refine xo_val rfl (a_store rfl rfl rfl rfl rfl (store_of (by repeat' first | assumption | exact AH.get_push_new _ _ | exact AH.get_push_at (by first | (simp only [AH.n_push, AH.n_set]; done) | (simp only [AH.n_push, AH.n_set]; rfl)) | refine AH.get_push_old ?_ _ | apply get_same | refine get_other ?_ (by first | assumption | omega | (simp only [AH.n_push, AH.n_set]; omega) | (dsimp only; omega) | (dsimp only; simp only [AH.n_push, AH.n_set]; omega)) | refine Le.get (by assumption) ?_) rfl rfl)) ⟨⟩ ?_
  refine xo_val rfl rfl ⟨⟩ ?_
  refine xo_nil (t_norm ?_)
  have c29 := W9.keep h2.n _ (hle8.get c27) (fun hm => (hF7 _ hm).2 rfl)
  have n7 : h2.n < h7.n := AH.get_lt c27
  have hF9 : ∀ b ∈ F9, h.n ≤ b ∧ b ≠ h2.n ∧ b < h9.n := fun b hb => by
    have q1 := R9.lt b hb
    have q2 := hle7.1
    have q3 := hle8.1
    rcases W9.fp b hb with x | x
    · exact ⟨(hF7 b x).1, (hF7 b x).2, q1⟩
    · simp only [AH.n_set, AH.n_push] at x q3
      exact ⟨by omega, by omega, q1⟩
  have hle9 : Le h h9 := ⟨Nat.le_trans (hle7.trans hle8).1 W9.n, fun b o e => W9.keep b o ((hle7.trans hle8).get e) fun hb => by have := (hF7 b hb).1; have := AH.get_lt e; omega⟩
  have hle10 := ((Le.refl h9).push (.row (Value.agg #[.int .i64 0, .int .i64 0, .slice none 0 0]).cells.toList true 0)).set (B := h9.n) (Nat.le_refl _) (.row (ansV 0 0 [[[5]]]).cells.toList true 0)
  have c6 := get_same (p := .row (ansV 0 0 [[[5]]]).cells.toList true 0) (AH.get_push_new h9 (.row (Value.agg #[.int .i64 0, .int .i64 0, .slice none 0 0]).cells.toList true 0))
  refine w_seq (w_region ?_)
  refine xo_val rfl rfl ⟨⟩ ?_
  refine xo_val rfl (a_struct (l := [_, _, _, _, _, _, _, _, _, _, _, _, _, _]) rfl rfl rfl rfl) ⟨⟩ ?_
  refine xo_call rfl rfl (dk_do (c := ⟨4, 1, 5, ⟨0, 0⟩⟩) (outs := []) (d := e3) (R9.le hle10) (sane1 _ ⟨by decide, by decide⟩) (nilOuts _ (by decide)) (fun e => by cases e) rfl fun h11 F11 R11 W11 => ⟨⟨⟩, ?_⟩)
  rw [e4_eq] at R11 ⊢
  refine xo_val rfl rfl ⟨⟩ ?_
  refine xo_val rfl rfl ⟨⟩ ?_
  refine xo_val rfl rfl ⟨⟩ ?_
  refine xo_val rfl (a_alloc rfl) ⟨⟩ ?_
  refine xo_val rfl (a_store rfl rfl rfl rfl rfl (store_of (by repeat' first | assumption | exact AH.get_push_new _ _ | exact AH.get_push_at (by first | (simp only [AH.n_push, AH.n_set]; done) | (simp only [AH.n_push, AH.n_set]; rfl)) | refine AH.get_push_old ?_ _ | apply get_same | refine get_other ?_ (by first | assumption | omega | (simp only [AH.n_push, AH.n_set]; omega) | (dsimp only; omega) | (dsimp only; simp only [AH.n_push, AH.n_set]; omega)) | refine Le.get (by assumption) ?_) rfl rfl)) ⟨⟩ ?_
  refine xo_val rfl rfl ⟨⟩ ?_
  refine xo_nil (t_norm ?_)
  have n9 := AH.get_lt c29
  have c211 := W11.keep h2.n _ (hle10.get c29) (fun hm => (hF9 _ hm).2.1 rfl)
  have c611 := W11.keep h9.n _ c6 (fun hm => by have := (hF9 _ hm).2.2; omega)
  have hle11 : Le h h11 := ⟨Nat.le_trans (hle9.trans hle10).1 W11.n, fun b o e => W11.keep b o ((hle9.trans hle10).get e) fun hb => by have := (hF9 b hb).1; have := AH.get_lt e; omega⟩
  have hle12 := ((Le.refl h11).push (.row (Value.agg #[.int .i64 0, .int .i64 0, .slice none 0 0]).cells.toList true 0)).set (B := h11.n) (Nat.le_refl _) (.row (ansV 20 0 []).cells.toList true 0)
  have c8 := get_same (p := .row (ansV 20 0 []).cells.toList true 0) (AH.get_push_new h11 (.row (Value.agg #[.int .i64 0, .int .i64 0, .slice none 0 0]).cells.toList true 0))
  have c212 := hle12.get c211
  have c612 := hle12.get c611
  exact awake_tail c212 c612 c8 (fun h' hl => hQ h' ((hle11.trans hle12).trans hl)) (by rfl) (by rfl) (by rfl) (by rfl) (by rfl)
end Go.AI.Q
