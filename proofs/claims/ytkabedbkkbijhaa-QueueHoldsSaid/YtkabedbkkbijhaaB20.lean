/-
  THE QUEUE'S LAWS: acts: commands. (Own work; steps printed by wip/gen/walk.py.)
-/
import Derived.Test.YtkabedbkkbijhaaB19
namespace Go.AI.Q
open Go Go.AI Go.Proofs
attribute [local irreducible] xOps xw
theorem modify_set {α : Type} {xs : List α} {k : Nat} {l : α} (f : α → α) (h : xs[k]? = some l) : xs.modify k f = xs.set k (f l) := by
  apply List.ext_getElem?
  intro i
  rw [List.getElem?_modify, List.getElem?_set]
  by_cases e : k = i
  · subst e
    rw [h]
    simp [(List.getElem?_eq_some_iff.1 h).1]
  · simp [e]
theorem length_insM (l : List Hit) (x : Hit) : (insM l x).length = l.length + 1 := by
  have := insAt_le l x.id l.length
  simp only [insM, List.length_append, List.length_cons, List.length_take, List.length_drop]
  omega
theorem hitsTo_len (s : ActM) (stamp : Int) : ∀ i, ∀ l ∈ hitsTo s stamp i, l.length ≤ i
  | 0, l, h => by
    simp only [hitsTo, List.mem_cons, List.not_mem_nil, or_false] at h
    rcases h with rfl | rfl | rfl <;> simp
  | i + 1, l, h => by
    have ih := hitsTo_len s stamp i
    simp only [hitsTo] at h
    split at h
    · obtain ⟨k, hk⟩ := List.getElem?_of_mem h
      rw [List.getElem?_modify] at hk
      cases hx : (hitsTo s stamp i)[k]? with
      | none => rw [hx] at hk; cases hk
      | some y =>
        have hy := ih y (List.mem_of_getElem? hx)
        rw [hx] at hk
        simp only [Option.map_some, Option.some.injEq, Option.map_eq_map] at hk
        split at hk
        · rw [← hk, length_insM]; omega
        · rw [← hk]; omega
    · have := ih l h; omega
def oc (x : List Hit × Option (List Int)) : Value := .agg #[hitsV x.1, (match x.2 with | none => .slice none 0 0 | some l => intsV l), .slice none 0 0, .slice none 0 0]
theorem sz_oc (l : List (List Hit × Option (List Int))) : sized 4 (l.map oc) := sized_map (f := oc) (fun _ => ⟨rfl, rfl⟩) l
def lx (s : ActM) (hs : List (List Hit)) (j : Nat) : List (List Hit × Option (List Int)) := hs.zipIdx.map fun p => (p.1, if p.2 < j then some (lostOf s p.2) else none)
theorem lx_zero (s : ActM) (hs : List (List Hit)) : (lx s hs 0).map oc = hs.map hc := by
  simp only [lx, List.map_map]
  apply List.ext_getElem?
  intro i
  simp only [List.getElem?_map, List.getElem?_zipIdx]
  cases hs[i]? <;> simp [oc, hc]
theorem lx_at {s : ActM} {hs : List (List Hit)} {j i : Nat} {l : List Hit} (h : hs[i]? = some l) : (lx s hs j)[i]? = some (l, if i < j then some (lostOf s i) else none) := by
  simp only [lx, List.getElem?_map, List.getElem?_zipIdx, h]
  simp
theorem lx_succ {s : ActM} {hs : List (List Hit)} {j : Nat} {l : List Hit} (h : hs[j]? = some l) : lx s hs (j + 1) = (lx s hs j).set j (l, some (lostOf s j)) := by
  apply List.ext_getElem?
  intro i
  rw [List.getElem?_set]
  by_cases e : j = i
  · subst e
    rw [if_pos rfl, lx_at h]
    have : j < (lx s hs j).length := by have := (List.getElem?_eq_some_iff.1 h).1; simpa [lx] using this
    rw [if_pos this, if_pos (by omega)]
  · rw [if_neg e]
    cases hi : hs[i]? with
    | none => simp [lx, List.getElem?_zipIdx, hi]
    | some y =>
      rw [lx_at hi, lx_at hi]
      congr 2
      by_cases h1 : i < j
      · rw [if_pos h1, if_pos (by omega)]
      · rw [if_neg h1, if_neg (by omega)]
/-- A row of outs that is given up. -/
theorem outs_give {h : AH} {B c : Nat} {s : ActM} {hs : List (List Hit)} {j : Nat} {cv : Value} (hB : h.get B = some (.row (flat ((lx s hs j).map oc)) true 4)) (hlen : hs.length = 3) (hj : ∀ i, j ≤ i → i < 3 → lostOf s i = []) :
    ∃ h', Gs (fun _ => .tuple #[cv, .slice (some ⟨B, 0, none⟩) 3 c]) h (fun _ => .tuple #[cv, outsV (hs.zipIdx.map fun p => ⟨p.1, lostOf s p.2⟩)]) h' ∧ But [B] h h' := by
  have hol : ((hs.zipIdx.map fun p => (⟨p.1, lostOf s p.2⟩ : Out)).map outV).length = 3 := by simp [hlen]
  have hcv : L2 (FZ h.n [] 0) (flat ((lx s hs j).map oc)) (flat ((hs.zipIdx.map fun p => (⟨p.1, lostOf s p.2⟩ : Out)).map outV)) := by
    have key : ∀ (ys : List (List Hit × Nat)), (∀ p ∈ ys, j ≤ p.2 → lostOf s p.2 = []) → L2 (FZ h.n [] 0) (flat ((ys.map fun p => (p.1, if p.2 < j then some (lostOf s p.2) else none)).map oc)) (flat ((ys.map fun p => (⟨p.1, lostOf s p.2⟩ : Out)).map outV)) := by
      intro ys
      induction ys with
      | nil => intro _; exact .nil
      | cons p ys ih =>
        intro hp
        have ih := ih fun q hq => hp q (List.mem_cons_of_mem _ hq)
        simp only [flat, List.map_cons, List.flatMap_cons] at ih ⊢
        refine L2.append ?_ ih
        by_cases e : p.2 < j
        · rw [if_pos e]; exact FZ.rfls
        · rw [if_neg e]
          have := hp p (List.mem_cons_self ..) (by omega)
          show L2 _ [hitsV p.1, .slice none 0 0, .slice none 0 0, .slice none 0 0] [hitsV p.1, intsV (lostOf s p.2), .slice none 0 0, .slice none 0 0]
          rw [this]
          exact .cons (.refl _) (.cons (.nil 1) (.cons (.refl _) (.cons (.refl _) .nil)))
    refine key hs.zipIdx fun p hp hjp => hj p.2 hjp ?_
    have := List.mem_zipIdx hp
    simp at this
    omega
  have hB1 := get_same (p := .row (flat ((hs.zipIdx.map fun p => (⟨p.1, lostOf s p.2⟩ : Out)).map outV)) true 4) hB
  refine ⟨_, Gs.trans (.conv (cs := []) (k := 0) (h1 := h.set B (.row (flat ((hs.zipIdx.map fun p => (⟨p.1, lostOf s p.2⟩ : Out)).map outV)) true 4)) (Nat.le_refl _) (fun t => .refl _) (by simp) (fun C o' hC => ?_) (.refl _ _)) (Gs.one (k := 4) hB1 fun t => FZ.tupL (.cons (.refl _) (.cons ?_ .nil))), ?_⟩
  · rw [AH.get_set hB] at hC
    by_cases e : C = B
    · rw [if_pos e] at hC; cases hC; subst e; exact ⟨_, hB, OFZ.rowL hcv⟩
    · rw [if_neg e] at hC; exact ⟨o', hC, .refl _⟩
  · have := FZ.flat (b := B) (c := c) (sz_out (hs.zipIdx.map fun p => (⟨p.1, lostOf s p.2⟩ : Out)))
    rw [hol] at this
    exact this
  · exact (((But.refl _ _).set (.inl (List.mem_singleton.2 rfl)) _).set (.inl (List.mem_singleton.2 rfl)) _).push _
def pubCode : XC := (XC.region x10_14).seq (((XC.region x10_15).seq (XC.block 1 (((XC.region x10_16).seq (XC.cond (Operand.tmp 55) XC.skip (XC.exit 1))).seq (hitCode.seq (XC.region x10_27))).loop)).seq (((XC.region x10_28).seq (XC.block 5 (((XC.region x10_29).seq (XC.cond (Operand.tmp 153) XC.skip (XC.exit 5))).seq ((XC.block 6 (XC.region x10_30)).seq (XC.region x10_31))).loop)).seq ((XC.region x10_32).seq XC.ret)))
theorem pub_ok {h : AH} {s : ActM} {stamp : Int} {fr : Fr} {Q : AO → AH → Prop} (hst : 0 ≤ stamp ∧ stamp ≤ 1000)
    (f1 : fr 1 = .int .i64 stamp) (f2 : fr 2 = .pointer (some ⟨h.n, 0, none⟩)) (f4 : fr 4 = .pointer (some ⟨h.n + 1, 0, none⟩)) (f5 : fr 5 = .slice none 0 0)
    (hQ : ∀ h', Le h h' → Q (.ret (.tuple #[cmdOf ⟨1, 0, 0, ⟨stamp, 7⟩⟩, outsV (outsOf s stamp)])) h') :
    xw tab C Y pubCode fr ((h.push (.row (actV s).cells.toList true 0)).push (.row (cmdV 0 0 0 ⟨0, 0⟩).cells.toList true 0)) (retQ tab [ResultVar.cell 4 40, ResultVar.tmp 5] Q) := by
  rw [← fr_fix f1, ← fr_fix f2, ← fr_fix f4, ← fr_fix f5]
  have hle2 := ((Le.refl h).push (.row (actV s).cells.toList true 0)).push (.row (cmdV 0 0 0 ⟨0, 0⟩).cells.toList true 0)
  have a2 := AH.get_push_old (AH.get_push_new h (.row (actV s).cells.toList true 0)) (.row (cmdV 0 0 0 ⟨0, 0⟩).cells.toList true 0)
  have a4 := AH.get_push_new (h.push (.row (actV s).cells.toList true 0)) (.row (cmdV 0 0 0 ⟨0, 0⟩).cells.toList true 0)
  have hn2 : ((h.push (.row (actV s).cells.toList true 0)).push (.row (cmdV 0 0 0 ⟨0, 0⟩).cells.toList true 0)).n = h.n + 2 := rfl
  generalize (h.push (.row (actV s).cells.toList true 0)).push (.row (cmdV 0 0 0 ⟨0, 0⟩).cells.toList true 0) = hb at hle2 a2 a4 hn2 ⊢
  unfold pubCode
  refine w_seq (w_region ?_)
  refine xo_val rfl (a_makeSlice (n := 3) rfl rfl rfl (by decide) (by decide)) ⟨⟩ ?_
  refine xo_val rfl rfl ⟨⟩ ?_
  refine xo_nil (t_norm ?_)
  -- no hits yet
  have g0 := AH.get_push_new hb (.row (zeros (Value.agg #[.slice none 0 0, .slice none 0 0, .slice none 0 0, .slice none 0 0]).cells.toList 3) true 4)
  have hcv : L2 (FZ (h.n + 3) [] 0) (zeros (Value.agg #[.slice none 0 0, .slice none 0 0, .slice none 0 0, .slice none 0 0]).cells.toList 3) (flat (([[], [], []] : List (List Hit)).map hc)) :=
    .cons (.nil 3) (.cons (.refl _) (.cons (.refl _) (.cons (.refl _) (.cons (.nil 3) (.cons (.refl _) (.cons (.refl _) (.cons (.refl _) (.cons (.nil 3) (.cons (.refl _) (.cons (.refl _) (.cons (.refl _) .nil)))))))))))
  have g1 := get_same (p := .row (flat (([[], [], []] : List (List Hit)).map hc)) true 4) g0
  have hG0 : ∀ fr : Fr, Gs fr (hb.push (.row (zeros (Value.agg #[.slice none 0 0, .slice none 0 0, .slice none 0 0, .slice none 0 0]).cells.toList 3) true 4)) fr ((hb.push (.row (zeros (Value.agg #[.slice none 0 0, .slice none 0 0, .slice none 0 0, .slice none 0 0]).cells.toList 3) true 4)).set hb.n (.row (flat (([[], [], []] : List (List Hit)).map hc)) true 4)) := fun fr =>
    .conv (cs := []) (k := 0) (b := h.n + 3) (by simp; omega) (fun t => .refl _) (by simp) (fun C o' hC => by
      rw [AH.get_set g0] at hC
      by_cases e : C = hb.n
      · rw [if_pos e] at hC; cases hC; subst e; exact ⟨_, g0, OFZ.rowL hcv⟩
      · rw [if_neg e] at hC; exact ⟨o', hC, .refl _⟩) (.refl _ _)
  refine w_give (hG0 _) ?_
  have b1 : But [h.n + 2] hb ((hb.push (.row (zeros (Value.agg #[.slice none 0 0, .slice none 0 0, .slice none 0 0, .slice none 0 0]).cells.toList 3) true 4)).set hb.n (.row (flat (([[], [], []] : List (List Hit)).map hc)) true 4)) := ((But.refl _ _).push _).set (.inr (Nat.le_refl _)) _
  have g2 : ((hb.push (.row (zeros (Value.agg #[.slice none 0 0, .slice none 0 0, .slice none 0 0, .slice none 0 0]).cells.toList 3) true 4)).set hb.n (.row (flat (([[], [], []] : List (List Hit)).map hc)) true 4)).get (h.n + 2) = some (.row (flat ((hitsTo s stamp 0).map hc)) true 4) := by
    have : h.n + 2 = hb.n := hn2.symm
    rw [this]; exact g1
  refine w_seq ?_
  refine w_seq (w_region ?_)
  refine xo_val rfl rfl ⟨⟩ ?_
  refine xo_nil (t_norm ?_)
  refine w_block (w_loop (fun N fr' h' => ∃ fr h1 i, Gs fr' h' fr h1 ∧ N + i = min 6 s.hits.length ∧ But [h.n + 2] hb h1 ∧ h1.get (h.n + 2) = some (.row (flat ((hitsTo s stamp i).map hc)) true 4) ∧
    fr 1 = .int .i64 stamp ∧ fr 2 = .pointer (some ⟨h.n, 0, none⟩) ∧ fr 4 = .pointer (some ⟨h.n + 1, 0, none⟩) ∧ fr 7 = .slice (some ⟨h.n + 2, 0, none⟩) 3 4 ∧ fr 8 = .int .i64 i) (min 6 s.hits.length) ?_ ?_)
  · exact ⟨_, _, 0, .refl _ _, rfl, b1, g2, rfl, rfl, rfl, by show Value.slice (some ⟨hb.n, 0, none⟩) 3 4 = _; rw [hn2], rfl⟩
  clear b1 g1 g2 g0 hG0 hcv f1 f2 f4 f5
  rintro N fr' h' ⟨fr, h1, i, hG, hN, hB1, hr1, f1, f2, f4, f7, f8⟩
  refine w_give hG ?_
  rw [← fr_fix f1, ← fr_fix f2, ← fr_fix f4, ← fr_fix f7, ← fr_fix f8]
  have a21 := hB1.get a2 (by simp)
  have a41 := hB1.get a4 (by simp)
  have hle1 : Le h h1 := hB1.le hle2 (by simp)
  have hlen := length_hitsTo s stamp
  -- what comes behind the hits
  have rest : i = min 6 s.hits.length → ∀ fr : Fr, fr 1 = .int .i64 stamp → fr 2 = .pointer (some ⟨h.n, 0, none⟩) → fr 4 = .pointer (some ⟨h.n + 1, 0, none⟩) → fr 7 = .slice (some ⟨h.n + 2, 0, none⟩) 3 4 →
      xw tab C Y (((XC.region x10_28).seq (XC.block 5 (((XC.region x10_29).seq (XC.cond (Operand.tmp 153) XC.skip (XC.exit 5))).seq ((XC.block 6 (XC.region x10_30)).seq (XC.region x10_31))).loop)).seq ((XC.region x10_32).seq XC.ret)) fr h1 (retQ tab [ResultVar.cell 4 40, ResultVar.tmp 5] Q) := by
    intro hi fr f1 f2 f4 f7
    rw [hi] at hr1
    rw [← lx_zero s] at hr1
    obtain ⟨hs, hhs⟩ : ∃ hs, hs = hitsTo s stamp (min 6 s.hits.length) := ⟨_, rfl⟩
    rw [← hhs] at hr1
    have hsl : hs.length = 3 := by rw [hhs]; exact hlen _
    rw [← fr_fix f1, ← fr_fix f2, ← fr_fix f4, ← fr_fix f7]
    refine w_seq ?_
    refine w_seq (w_region ?_)
    refine xo_val rfl rfl ⟨⟩ ?_
    refine xo_nil (t_norm ?_)
    refine w_block (w_loop (fun N fr' h' => ∃ fr h2 j, Gs fr' h' fr h2 ∧ N + j = min 2 s.lost.length ∧ But [h.n + 2] hb h2 ∧ h2.get (h.n + 2) = some (.row (flat ((lx s hs j).map oc)) true 4) ∧
      fr 1 = .int .i64 stamp ∧ fr 2 = .pointer (some ⟨h.n, 0, none⟩) ∧ fr 4 = .pointer (some ⟨h.n + 1, 0, none⟩) ∧ fr 7 = .slice (some ⟨h.n + 2, 0, none⟩) 3 4 ∧ fr 13 = .int .i64 j) (min 2 s.lost.length) ?_ ?_)
    · exact ⟨_, _, 0, .refl _ _, rfl, hB1, hr1, rfl, rfl, rfl, rfl, rfl⟩
    clear f1 f2 f4 f7 hr1 hB1 a21 a41 hle1 hN
    rintro N fr' h' ⟨fr, h2, j, hG, hN, hB2, hr2, f1, f2, f4, f7, f13⟩
    refine w_give hG ?_
    clear hG
    rw [← fr_fix f1, ← fr_fix f2, ← fr_fix f4, ← fr_fix f7, ← fr_fix f13]
    have a22 := hB2.get a2 (by simp)
    have a42 := hB2.get a4 (by simp)
    have hle2' : Le h h2 := hB2.le hle2 (by simp)
    have fin : j = min 2 s.lost.length → ∀ fr : Fr, fr 1 = .int .i64 stamp → fr 4 = .pointer (some ⟨h.n + 1, 0, none⟩) → fr 7 = .slice (some ⟨h.n + 2, 0, none⟩) 3 4 → xw tab C Y ((XC.region x10_32).seq XC.ret) fr h2 (retQ tab [ResultVar.cell 4 40, ResultVar.tmp 5] Q) := by
      intro hj fr f1 f4 f7
      rw [← fr_fix f1, ← fr_fix f4, ← fr_fix f7]
      refine w_seq (w_region ?_)
      refine xo_val rfl rfl ⟨⟩ ?_
      refine xo_val rfl (a_struct (l := [_, _]) rfl rfl rfl rfl) ⟨⟩ ?_
      refine xo_val rfl (a_struct (l := [_, _, _, _, _, _, _, _, _, _, _, _, _, _]) rfl rfl rfl rfl) ⟨⟩ ?_
      refine xo_val rfl rfl ⟨⟩ ?_
      refine xo_val rfl (a_store rfl rfl rfl rfl rfl (store_of a42 rfl rfl)) ⟨⟩ ?_
      refine xo_val rfl rfl ⟨⟩ ?_
      refine xo_nil (t_norm ?_)
      have hr3 := get_other (p := .row (cmdOf ⟨1, 0, 0, ⟨stamp, 7⟩⟩).cells.toList true 0) hr2 (show h.n + 2 ≠ h.n + 1 by omega)
      obtain ⟨h', hG, hB⟩ := outs_give (c := 4) (cv := cmdOf ⟨1, 0, 0, ⟨stamp, 7⟩⟩) hr3 hsl (fun k h1 h2 => by
        unfold lostOf
        by_cases hk : k < 2
        · rw [if_pos hk, List.getElem?_eq_none (by omega)]
        · rw [if_neg hk])
      refine w_ret (ret_give (rs_cell rfl rfl rfl (cells_of (get_same a42) rfl rfl rfl) (rs_tmp rfl rs_nil)) hG ?_)
      have : outsOf s stamp = hs.zipIdx.map fun p => ⟨p.1, lostOf s p.2⟩ := by unfold outsOf; rw [hhs]
      rw [this] at hQ
      exact hQ _ (hB.le (hle2'.set (by omega) _) (by simp))
    refine w_seq ?_
    refine w_seq (w_region ?_)
    refine xo_val rfl rfl ⟨⟩ ?_
    refine xo_val rfl rfl ⟨⟩ ?_
    first | refine xo_val rfl (a_load_pp rfl rfl rfl rfl) ⟨⟩ ?_ | refine xo_val rfl (a_load rfl rfl rfl (cell_of (by repeat' first | assumption | exact AH.get_push_new _ _ | exact AH.get_push_at (by first | (simp only [AH.n_push, AH.n_set]; done) | (simp only [AH.n_push, AH.n_set]; rfl)) | refine AH.get_push_old ?_ _ | apply get_same | refine get_other ?_ (by first | assumption | omega | (simp only [AH.n_push, AH.n_set]; omega) | (dsimp only; omega) | (dsimp only; simp only [AH.n_push, AH.n_set]; omega)) | refine Le.get (by assumption) ?_) rfl rfl)) ⟨⟩ ?_
    first | refine xo_val rfl (a_len_map rfl rfl rfl rfl rfl rfl) ⟨⟩ ?_ | refine xo_val rfl (a_len_ps rfl rfl rfl rfl rfl rfl) ⟨⟩ ?_ | refine xo_val rfl rfl ⟨⟩ ?_
    refine xo_val rfl (a_bin rfl rfl (bin_lss _ _ _ _ _)) ⟨⟩ ?_
    cases hjl : decide ((j : Int) < s.lost.length) with
    | false =>
      refine xo_val rfl rfl ⟨⟩ ?_
      first | refine xo_skip (want_no rfl (by first | rfl | assumption)) ?_ | refine xo_skip rfl ?_ | refine xo_val (want_if rfl (by first | rfl | assumption)) rfl ⟨⟩ ?_
      first | refine xo_skip (want_no rfl (by first | rfl | assumption)) ?_ | refine xo_skip rfl ?_ | refine xo_val (want_if rfl (by first | rfl | assumption)) (a_bin rfl rfl (bin_lss _ _ _ _ _)) ⟨⟩ ?_
      first | refine xo_val rfl (a_pick_t rfl (by first | rfl | assumption) rfl) ⟨⟩ ?_ | refine xo_val rfl (a_pick_f rfl (by first | rfl | assumption) rfl) ⟨⟩ ?_
      refine xo_nil (t_norm (w_cond rfl (fun e => by cases e) (fun _ => w_exit (t_exit (b_here (id := 5) (t_norm ?_))))))
      exact fin (by have := of_decide_eq_false hjl; omega) _ (by rfl) (by rfl) (by rfl)
    | true =>
      have hjl' := of_decide_eq_true hjl
      refine xo_val rfl rfl ⟨⟩ ?_
      first | refine xo_skip (want_no rfl (by first | rfl | assumption)) ?_ | refine xo_skip rfl ?_ | refine xo_val (want_if rfl (by first | rfl | assumption)) rfl ⟨⟩ ?_
      first | refine xo_skip (want_no rfl (by first | rfl | assumption)) ?_ | refine xo_skip rfl ?_ | refine xo_val (want_if rfl (by first | rfl | assumption)) (a_bin rfl rfl (bin_lss _ _ _ _ _)) ⟨⟩ ?_
      first | refine xo_val rfl (a_pick_t rfl (by first | rfl | assumption) rfl) ⟨⟩ ?_ | refine xo_val rfl (a_pick_f rfl (by first | rfl | assumption) rfl) ⟨⟩ ?_
      refine xo_nil (t_norm (w_cond rfl (fun hj2 => w_skip (t_norm ?_)) (fun hj2 => w_exit (t_exit (b_here (id := 5) (t_norm ?_))))))
      · have hj2' : (j : Int) < 2 := of_decide_eq_true hj2
        obtain ⟨x, hx⟩ : ∃ x, s.lost[j]? = some x := ⟨_, List.getElem?_eq_getElem (by omega)⟩
        obtain ⟨l, hl⟩ : ∃ l, hs[j]? = some l := ⟨_, List.getElem?_eq_getElem (by omega)⟩
        have hxat := lx_at (s := s) (j := j) hl
        rw [if_neg (by omega)] at hxat
        have hoat : ((lx s hs j).map oc)[j]? = some (oc (l, none)) := map_at hxat
        have hcell : (flat ((lx s hs j).map oc))[((j : Nat) : Int).toNat * 4 + 1]? = some (.slice none 0 0) := by rw [Int.toNat_natCast]; exact flat_cell (sz_oc _) hoat rfl
        have hll2 : (lx s hs j).length = 3 := by simpa [lx] using hsl
        have hfl : (flat ((lx s hs j).map oc)).length = 12 := by rw [flat_length (sz_oc _), List.length_map, hll2]
        have hBn := AH.get_lt hr2
        refine w_seq (w_block (w_region ?_))
        refine xo_val rfl rfl ⟨⟩ ?_
        refine xo_val rfl rfl ⟨⟩ ?_
        refine xo_val rfl rfl ⟨⟩ ?_
        refine xo_val rfl rfl ⟨⟩ ?_
        refine xo_val rfl (a_ixs rfl rfl rfl rfl rfl (by omega)) ⟨⟩ ?_
        refine xo_val rfl rfl ⟨⟩ ?_
        refine xo_val rfl (a_load_add2 rfl rfl rfl hr2 hcell) ⟨⟩ ?_
        refine xo_val rfl rfl ⟨⟩ ?_
        first | refine xo_val rfl (a_load_pp rfl rfl rfl rfl) ⟨⟩ ?_ | refine xo_val rfl (a_load rfl rfl rfl (cell_of (by repeat' first | assumption | exact AH.get_push_new _ _ | exact AH.get_push_at (by first | (simp only [AH.n_push, AH.n_set]; done) | (simp only [AH.n_push, AH.n_set]; rfl)) | refine AH.get_push_old ?_ _ | apply get_same | refine get_other ?_ (by first | assumption | omega | (simp only [AH.n_push, AH.n_set]; omega) | (dsimp only; omega) | (dsimp only; simp only [AH.n_push, AH.n_set]; omega)) | refine Le.get (by assumption) ?_) rfl rfl)) ⟨⟩ ?_
        refine xo_val rfl rfl ⟨⟩ ?_
        first | refine xo_val rfl (a_ix_mapN rfl rfl rfl rfl rfl rfl (by assumption)) ⟨⟩ ?_ | refine xo_val rfl (a_ix_ps rfl rfl rfl rfl rfl rfl (by omega) (by assumption)) ⟨⟩ ?_ | refine xo_val rfl (a_ixs rfl rfl rfl rfl rfl (by omega)) ⟨⟩ ?_ | refine xo_val rfl (a_ixa rfl rfl rfl rfl rfl (by omega)) ⟨⟩ ?_
        first | refine xo_val rfl (a_load_pp rfl rfl rfl rfl) ⟨⟩ ?_ | refine xo_val rfl (a_load rfl rfl rfl (cell_of (by repeat' first | assumption | exact AH.get_push_new _ _ | exact AH.get_push_at (by first | (simp only [AH.n_push, AH.n_set]; done) | (simp only [AH.n_push, AH.n_set]; rfl)) | refine AH.get_push_old ?_ _ | apply get_same | refine get_other ?_ (by first | assumption | omega | (simp only [AH.n_push, AH.n_set]; omega) | (dsimp only; omega) | (dsimp only; simp only [AH.n_push, AH.n_set]; omega)) | refine Le.get (by assumption) ?_) rfl rfl)) ⟨⟩ ?_
        refine xo_call rfl rfl (rest_ok (by decide) (by decide) ⟨⟨fun _ => a_load_add2 rfl rfl rfl hr2 hcell, trivial⟩, ?_⟩)
        refine xo_val rfl (a_list (l := [_]) rfl rfl rfl rfl rfl) ⟨fun _ => a_load_add2 rfl rfl rfl (AH.get_push_old hr2 _) hcell, trivial⟩ ?_
        have hle3 := (Le.refl h2).push (.row [.int .i64 (restZ x 12)] true 1)
        have As : Acc (h2.push (.row [.int .i64 (restZ x 12)] true 1)) 1 (.slice (some ⟨h2.n, 0, none⟩) 1 2) [intV (restZ x 12)] := Acc.new (sz_int [restZ x 12]) (AH.get_push_new _ _) (.inr rfl)
        obtain ⟨p, hp, A5, hB5, hbl5⟩ := acc_append (T := tab) (t := 43) (xt := 43) (x := .slice (some ⟨h2.n, 0, none⟩) 1 2) (Acc.nil (h := h2.push (.row [.int .i64 (restZ x 12)] true 1)) (k := 1)) (show elemOfSlice tab 43 = some _ from rfl) rfl (fun _ e => by cases e) rfl (As.src rfl) (sz_int [restZ x 12]) (roomOk_of (by simp) (by simp))
        obtain ⟨nv, h5⟩ := p
        dsimp only at A5 hB5 hbl5
        refine xo_val rfl (a_append rfl rfl rfl rfl rfl hp) ⟨⟩ ?_
        refine xo_val rfl (a_ixs rfl rfl rfl rfl rfl (by omega)) ⟨⟩ ?_
        refine xo_val rfl rfl ⟨⟩ ?_
        have hr5 := hB5.get (hle3.get hr2) (by simp [rowBlk])
        refine xo_val rfl (a_store_add2 rfl rfl rfl rfl A5.one hr5 (by rw [hfl, Int.toNat_natCast]; show j * 4 + 1 < 12; omega)) ⟨⟩ ?_
        refine xo_nil (b_norm (t_norm ?_))
        refine w_region ?_
        refine xo_val rfl rfl ⟨⟩ ?_
        refine xo_val rfl (a_bin rfl rfl (bin_add64 _ _ _ _ (by omega))) ⟨⟩ ?_
        refine xo_val rfl rfl ⟨⟩ ?_
        refine xo_nil ?_
        obtain ⟨Bn, cc, rfl, hrow⟩ : ∃ Bn cc, nv = .slice (some ⟨Bn, 0, none⟩) 1 cc ∧ h5.get Bn = some (.row (flat [intV (restZ x 12)]) true 1) := by
          rcases A5 with ⟨_, ⟨_, e⟩ | ⟨Bn, cc, e1, e2, _⟩⟩
          · cases e
          · exact ⟨Bn, cc, e1, e2⟩
        have hBnB : h2.n < Bn := by
          rcases hbl5 Bn (by simp [rowBlk]) with y | y
          · simp [rowBlk] at y
          · simp at y; omega
        have hlo : lostOf s j = [restZ x 12] := by unfold lostOf; rw [if_pos (by omega), hx]
        have hs6 : putAt (flat ((lx s hs j).map oc)) (((j : Nat) : Int).toNat * 4 + 1) [intsV [restZ x 12]] = flat ((lx s hs (j + 1)).map oc) := by
          rw [Int.toNat_natCast, lx_succ hl, List.map_set, hlo]
          exact flat_set (sz_oc _) hoat (by decide) rfl
        have g1 := get_other (p := .row (putAt (flat ((lx s hs j).map oc)) (((j : Nat) : Int).toNat * 4 + 1) [.slice (some ⟨Bn, 0, none⟩) 1 cc]) true 4) hrow (by omega : Bn ≠ h.n + 2)
        have g2 := get_same (p := .row (putAt (flat ((lx s hs j).map oc)) (((j : Nat) : Int).toNat * 4 + 1) [.slice (some ⟨Bn, 0, none⟩) 1 cc]) true 4) hr5
        have hz : OFZ Bn (flat [intV (restZ x 12)]) 1 (.row (putAt (flat ((lx s hs j).map oc)) (((j : Nat) : Int).toNat * 4 + 1) [.slice (some ⟨Bn, 0, none⟩) 1 cc]) true 4) (.row (putAt (flat ((lx s hs j).map oc)) (((j : Nat) : Int).toNat * 4 + 1) [intsV [restZ x 12]]) true 4) :=
          OFZ.rowL (FZ.rfls.set _ (FZ.flat (els := [intV (restZ x 12)]) (sz_int [restZ x 12])))
        have n2 := hB2.1
        refine ⟨N - 1, by omega, _, _, j + 1, Gs.up (k := 1) g1 (fun t => .refl _) g2 (by omega) hz, by omega, ?_, ?_, rfl, rfl, rfl, rfl, rfl⟩
        · have b1 : But [] h2 h5 := (hle3.but _).trans hB5 fun k hk => by simp [rowBlk] at hk
          exact (((((hB2.trans b1 (fun k hk => by cases hk)).set (.inl (List.mem_singleton.2 rfl)) _).set (.inr (by omega)) _).set (.inl (List.mem_singleton.2 rfl)) _).push _)
        · rw [← hs6]
          exact AH.get_push_old (get_same (get_other g2 (by omega))) _
      · exact fin (by have := of_decide_eq_false hj2; omega) _ (by rfl) (by rfl) (by rfl)
  refine w_seq ?_
  refine w_seq (w_region ?_)
  refine xo_val rfl rfl ⟨⟩ ?_
  refine xo_val rfl rfl ⟨⟩ ?_
  first | refine xo_val rfl (a_load_pp rfl rfl rfl rfl) ⟨⟩ ?_ | refine xo_val rfl (a_load rfl rfl rfl (cell_of (by repeat' first | assumption | exact AH.get_push_new _ _ | exact AH.get_push_at (by first | (simp only [AH.n_push, AH.n_set]; done) | (simp only [AH.n_push, AH.n_set]; rfl)) | refine AH.get_push_old ?_ _ | apply get_same | refine get_other ?_ (by first | assumption | omega | (simp only [AH.n_push, AH.n_set]; omega) | (dsimp only; omega) | (dsimp only; simp only [AH.n_push, AH.n_set]; omega)) | refine Le.get (by assumption) ?_) rfl rfl)) ⟨⟩ ?_
  first | refine xo_val rfl (a_len_map rfl rfl rfl rfl rfl rfl) ⟨⟩ ?_ | refine xo_val rfl (a_len_ps rfl rfl rfl rfl rfl rfl) ⟨⟩ ?_ | refine xo_val rfl rfl ⟨⟩ ?_
  refine xo_val rfl (a_bin rfl rfl (bin_lss _ _ _ _ _)) ⟨⟩ ?_
  cases hil : decide ((i : Int) < s.hits.length) with
  | false =>
    refine xo_val rfl rfl ⟨⟩ ?_
    first | refine xo_skip (want_no rfl (by first | rfl | assumption)) ?_ | refine xo_skip rfl ?_ | refine xo_val (want_if rfl (by first | rfl | assumption)) rfl ⟨⟩ ?_
    first | refine xo_skip (want_no rfl (by first | rfl | assumption)) ?_ | refine xo_skip rfl ?_ | refine xo_val (want_if rfl (by first | rfl | assumption)) (a_bin rfl rfl (bin_lss _ _ _ _ _)) ⟨⟩ ?_
    first | refine xo_val rfl (a_pick_t rfl (by first | rfl | assumption) rfl) ⟨⟩ ?_ | refine xo_val rfl (a_pick_f rfl (by first | rfl | assumption) rfl) ⟨⟩ ?_
    refine xo_nil (t_norm (w_cond rfl (fun e => by cases e) (fun _ => w_exit (t_exit (b_here (id := 1) (t_norm ?_))))))
    exact rest (by have := of_decide_eq_false hil; omega) _ (by rfl) (by rfl) (by rfl) (by rfl)
  | true =>
    have hil' := of_decide_eq_true hil
    refine xo_val rfl rfl ⟨⟩ ?_
    first | refine xo_skip (want_no rfl (by first | rfl | assumption)) ?_ | refine xo_skip rfl ?_ | refine xo_val (want_if rfl (by first | rfl | assumption)) rfl ⟨⟩ ?_
    first | refine xo_skip (want_no rfl (by first | rfl | assumption)) ?_ | refine xo_skip rfl ?_ | refine xo_val (want_if rfl (by first | rfl | assumption)) (a_bin rfl rfl (bin_lss _ _ _ _ _)) ⟨⟩ ?_
    first | refine xo_val rfl (a_pick_t rfl (by first | rfl | assumption) rfl) ⟨⟩ ?_ | refine xo_val rfl (a_pick_f rfl (by first | rfl | assumption) rfl) ⟨⟩ ?_
    refine xo_nil (t_norm (w_cond rfl (fun hi6 => w_skip (t_norm ?_)) (fun hi6 => w_exit (t_exit (b_here (id := 1) (t_norm ?_))))))
    · have hi6' : (i : Int) < 6 := of_decide_eq_true hi6
      clear rest
      obtain ⟨x, hx⟩ : ∃ x, s.hits[i]? = some x := ⟨_, List.getElem?_eq_getElem (by omega)⟩
      obtain ⟨l, hl⟩ : ∃ l, (hitsTo s stamp i)[slotOf s i]? = some l := ⟨_, List.getElem?_eq_getElem (by rw [hlen]; exact slotOf_lt s i)⟩
      have hl2 := hitsTo_len s stamp i l (List.mem_of_getElem? hl)
      refine w_seq (act_hit (v4 := .pointer (some ⟨h.n + 1, 0, none⟩)) hr1 a21 (by omega) hl (by omega) (hlen i) hx (by omega) hst (by rfl) (by rfl) (by rfl) (by rfl) (by rfl) ?_)
      rintro fr' h' h2 ⟨g1, g2, g4, g7, g8⟩ hG2 hB2 hr2
      rw [← fr_fix g1, ← fr_fix g2, ← fr_fix g4, ← fr_fix g7, ← fr_fix g8]
      refine t_norm ?_
      refine w_region ?_
      refine xo_val rfl rfl ⟨⟩ ?_
      refine xo_val rfl (a_bin rfl rfl (bin_add64 _ _ _ _ (by omega))) ⟨⟩ ?_
      refine xo_val rfl rfl ⟨⟩ ?_
      refine xo_nil ?_
      refine ⟨N - 1, by omega, _, h2, i + 1, hG2 _, by omega, hB1.trans hB2 (fun k hk => .inl hk), ?_, rfl, rfl, rfl, rfl, rfl⟩
      rw [hr2]
      have : hitsTo s stamp (i + 1) = (hitsTo s stamp i).set (slotOf s i) (insM l (hitOf stamp i x)) := by
        simp only [hitsTo, hx]
        exact modify_set _ hl
      rw [this]
    · exact rest (by have := of_decide_eq_false hi6; omega) _ (by rfl) (by rfl) (by rfl) (by rfl)
end Go.AI.Q
