/-
  THE QUEUE'S DESK: Held. (Own work; steps printed by wip/gen/walk.py.)
-/
import Derived.Test.YtkabedbkkbijhaaB4
namespace Go.AI.Q
open Go Go.AI Go.Proofs
attribute [local irreducible] xOps xw
def cnt (l : LineM) : Nat := (l.row.map fun f => f.refs.length).sum
def heldM (d : DeskM) : Nat := (d.lines.map cnt).sum
def seenSum : List LineM → List Nat → List Nat → Nat
  | l :: ls, b :: bs, seen => (if b ∈ seen then cnt l else 0) + seenSum ls bs seen
  | _, _, _ => 0
theorem seen_all : ∀ (ls : List LineM) (bs seen : List Nat), bs.length = ls.length → (∀ b ∈ bs, b ∈ seen) → seenSum ls bs seen = (ls.map cnt).sum
  | [], bs, seen, _, _ => by cases bs <;> simp [seenSum]
  | l :: ls, [], seen, h, _ => by simp at h
  | l :: ls, b :: bs, seen, h, k => by
    simp only [seenSum, List.map_cons, List.sum_cons]
    rw [seen_all ls bs seen (by simpa using h) fun c hc => k c (List.mem_cons_of_mem _ hc), if_pos (k b (List.mem_cons_self ..))]
theorem seen_none : ∀ (ls : List LineM) (bs : List Nat), seenSum ls bs [] = 0
  | [], bs => by cases bs <;> simp [seenSum]
  | l :: ls, [] => by simp [seenSum]
  | l :: ls, b :: bs => by simp [seenSum, seen_none ls bs]
theorem seen_off : ∀ (ls : List LineM) (bs seen : List Nat) (c : Nat), c ∉ bs → seenSum ls bs (seen ++ [c]) = seenSum ls bs seen
  | [], bs, seen, c, _ => by cases bs <;> simp [seenSum]
  | l :: ls, [], seen, c, _ => by simp [seenSum]
  | l :: ls, b :: bs, seen, c, h => by
    simp only [List.mem_cons, not_or] at h
    simp only [seenSum, seen_off ls bs seen c h.2, List.mem_append, List.mem_singleton, Ne.symm h.1, or_false]
theorem seen_add : ∀ (ls : List LineM) (bs seen : List Nat) (i : Nat) (b : Nat) (l : LineM), bs.Nodup → bs[i]? = some b → ls[i]? = some l → b ∉ seen → seenSum ls bs (seen ++ [b]) = seenSum ls bs seen + cnt l
  | [], bs, seen, i, b, l, _, _, h, _ => by simp at h
  | l0 :: ls, [], seen, i, b, l, _, h, _, _ => by simp at h
  | l0 :: ls, b0 :: bs, seen, 0, b, l, hn, hb, hl, hs => by
    simp at hb hl
    subst hb; subst hl
    rw [List.nodup_cons] at hn
    simp [seenSum, seen_off ls bs seen b0 hn.1, hs]
    omega
  | l0 :: ls, b0 :: bs, seen, i + 1, b, l, hn, hb, hl, hs => by
    rw [List.nodup_cons] at hn
    simp only [List.getElem?_cons_succ] at hb hl
    have hne : b0 ≠ b := fun e => hn.1 (e ▸ List.mem_of_getElem? hb)
    simp only [seenSum, seen_add ls bs seen i b l hn.2 hb hl hs, List.mem_append, List.mem_singleton, hne, or_false]
    omega
theorem seen_le : ∀ (ls : List LineM) (bs seen : List Nat), seenSum ls bs seen ≤ (ls.map cnt).sum
  | [], bs, seen => by cases bs <;> simp [seenSum]
  | l :: ls, [], seen => by simp [seenSum]
  | l :: ls, b :: bs, seen => by
    have := seen_le ls bs seen
    simp only [seenSum, List.map_cons, List.sum_cons]
    split <;> omega
def cntTo (xs : List Found) (i : Nat) : Nat := ((xs.take i).map fun f => f.refs.length).sum
theorem cntTo_succ {xs : List Found} {i : Nat} {f : Found} (h : xs[i]? = some f) : cntTo xs (i + 1) = cntTo xs i + f.refs.length := by
  unfold cntTo
  rw [List.take_add_one, h]
  simp
theorem cntTo_le (xs : List Found) (i : Nat) : cntTo xs i ≤ (xs.map fun f => f.refs.length).sum := by
  unfold cntTo
  have h := List.take_append_drop i xs
  have : ((xs.take i ++ xs.drop i).map fun f => f.refs.length).sum = (xs.map fun f => f.refs.length).sum := by rw [h]
  rw [List.map_append, List.sum_append] at this
  omega
theorem cntTo_all (l : LineM) : cntTo l.row l.row.length = cnt l := by
  unfold cntTo cnt
  rw [List.take_length]
theorem a_range78 {fr : Fr} {h : AH} {x : Operand} {m clk : Nat} {es : List (Value × Value)} {bs : List Nat} (e : ev fr x = .map (some m)) (hm : h.get m = some (.map es bs clk)) :
    aOp tab fr h (.range 78 x) = some (.val (.pointer (some ⟨h.n, 0, none⟩)) (h.push (.iter (some m) clk [] clk))) := by
  have t78 : tab 78 = some { ud := UD.map 3 82, size := 1, bytes := 8, zero := Value.map none, eqok := true } := rfl
  simp only [aOp, e, aRange, t78, hm]
theorem a_next_map {fr : Fr} {h : AH} {x : Operand} {m clk it : Nat} {es : List (Value × Value)} {bs seen : List Nat} (e : ev fr x = .pointer (some ⟨it, 0, none⟩)) (hi : h.get it = some (.iter (some m) clk seen clk)) (hm : h.get m = some (.map es bs clk))
    (hl : es.length = bs.length) (hb : ∀ b ∈ bs, b < clk) :
    ∃ l, aOp tab fr h (.next x false) = some (.any l) ∧ ∀ p ∈ l, (p = (overV, h) ∧ ∀ b ∈ bs, b ∈ seen) ∨ ∃ (i : Nat) (kv : Value × Value) (b : Nat), es[i]? = some kv ∧ bs[i]? = some b ∧ b ∉ seen ∧ p = (stepV kv, h.set it (.iter (some m) clk (seen ++ [b]) clk)) := by
  have hc : (!seen.isEmpty && !es.isEmpty && bs.all fun b => decide (b ≥ clk)) = false := by
    cases bs with
    | nil =>
      have : es = [] := List.eq_nil_of_length_eq_zero (by simpa using hl)
      simp [this]
    | cons b bs =>
      have := hb b (List.mem_cons_self ..)
      have hd : decide (b ≥ clk) = false := by simp; omega
      simp [hd]
  refine ⟨_, by simp only [aOp, e, aNext, hi, hm, hc]; rfl, ?_⟩
  intro p hp
  rcases List.mem_append.1 hp with hp | hp
  · left
    split at hp
    · rename_i hemp
      simp only [List.mem_singleton] at hp
      refine ⟨hp, fun b hbm => ?_⟩
      obtain ⟨i, hi⟩ := List.getElem?_of_mem hbm
      have hlt : i < es.length := by rw [hl]; exact (List.getElem?_eq_some_iff.1 hi).1
      rw [List.isEmpty_iff, List.filter_eq_nil_iff] at hemp
      by_cases hs : b ∈ seen
      · exact hs
      · exfalso
        refine hemp (es[i], b) ?_ (by simpa using hb b hbm)
        rw [List.mem_filter]
        refine ⟨List.mem_of_getElem? (i := i) ?_, by simpa using hs⟩
        rw [List.getElem?_zip_eq_some]
        exact ⟨List.getElem?_eq_getElem hlt, hi⟩
    · cases hp
  · right
    obtain ⟨⟨kv, b⟩, hm1, rfl⟩ := List.mem_map.1 hp
    rw [List.mem_filter] at hm1
    obtain ⟨i, hi⟩ := List.getElem?_of_mem hm1.1
    rw [List.getElem?_zip_eq_some] at hi
    exact ⟨i, kv, b, hi.1, hi.2, by simpa using hm1.2, rfl⟩
theorem sub_len : ∀ {l m : List Nat}, l.Nodup → (∀ x ∈ l, x ∈ m) → l.length ≤ m.length
  | [], m, _, _ => Nat.zero_le _
  | x :: l, m, hn, hs => by
    rw [List.nodup_cons] at hn
    have hx := hs x (List.mem_cons_self ..)
    have ih := sub_len (l := l) (m := m.erase x) hn.2 fun y hy => (List.mem_erase_of_ne (fun e : y = x => hn.1 (by rw [← e]; exact hy))).2 (hs y (List.mem_cons_of_mem _ hy))
    rw [List.length_erase_of_mem hx] at ih
    have := List.length_pos_of_mem hx
    simp
    omega
theorem a_entry_map {fr : Fr} {h : AH} {x : Operand} {m clk it : Nat} {es : List (Value × Value)} {bs seen : List Nat} {i b : Nat} {kv : Value × Value} (e : ev fr x = .pointer (some ⟨it, 0, none⟩)) (hi : h.get it = some (.iter (some m) clk (seen ++ [b]) clk)) (hm : h.get m = some (.map es bs clk))
    (hn : bs.Nodup) (hk : es[i]? = some kv) (hb : bs[i]? = some b) : aOp tab fr h (.entry x) = some (.val (.tuple #[kv.1, kv.2]) h) := by
  have hf : (es.zip bs).find? (fun e => e.2 == b) = some (kv, b) := by
    clear hm hi
    induction bs generalizing es i with
    | nil => simp at hb
    | cons c bs ih =>
      cases es with
      | nil => simp at hk
      | cons y es =>
        rw [List.nodup_cons] at hn
        simp only [List.zip_cons_cons, List.find?_cons]
        cases i with
        | zero => simp at hk hb; subst hk; subst hb; simp
        | succ i =>
          simp only [List.getElem?_cons_succ] at hk hb
          have : (c == b) = false := by
            simp; intro e; exact hn.1 (e ▸ List.mem_of_getElem? hb)
          simp only [this]
          exact ih hn.2 hk hb
  simp only [aOp, e, aEntry, hi, hm, List.getLast?_append, List.getLast?_singleton]
  simp [hf]
theorem held_ok {h : AH} {D m : Nat} {gs : List (Nat × Value)} {bs : List Nat} {clk : Nat} {d : DeskM} {Q : AO → AH → Prop} (R : DeskR h D m gs bs clk d) (hb : heldM d < 4611686018427387904) (hrl : ∀ l ∈ d.lines, l.row.length < 4611686018427387904)
    (hQ : ∀ h', Le h h' → Q (.ret (.int .i64 (heldM d))) h') : C 12 [.pointer (some ⟨D, 0, none⟩)] h Q := by
  refine run_12 rfl ?_
  have hD := R.desk
  have hm := R.map
  have hes : (List.zipWith entry d.lines gs).length = bs.length := by simp [R.len, R.blen]
  refine w_seq (w_region ?_)
  refine xo_val rfl rfl ⟨⟩ ?_
  refine xo_nil (t_norm ?_)
  refine w_seq (w_seq (w_region ?_))
  refine xo_val rfl rfl ⟨⟩ ?_
  first | refine xo_val rfl (a_bin rfl rfl (bin_eql _ _ _ _ _)) ⟨⟩ ?_ | refine xo_val rfl rfl ⟨⟩ ?_
  refine xo_nil (t_norm ?_)
  refine w_cond rfl (fun e => by simp at e) fun _ => ?_
  refine w_skip (t_norm (w_seq (w_region ?_)))
  refine xo_val rfl rfl ⟨⟩ ?_
  refine xo_nil (t_norm ?_)
  refine w_seq (w_seq (w_region ?_))
  refine xo_val rfl rfl ⟨⟩ ?_
  refine xo_val rfl rfl ⟨⟩ ?_
  refine xo_val rfl rfl ⟨⟩ ?_
  first | refine xo_val rfl (a_load_pp rfl rfl rfl rfl) ⟨⟩ ?_ | refine xo_val rfl (a_load rfl rfl rfl (cell_of (by repeat' first | assumption | exact AH.get_push_new _ _ | exact AH.get_push_at (by first | (simp only [AH.n_push, AH.n_set]; done) | (simp only [AH.n_push, AH.n_set]; rfl)) | refine AH.get_push_old ?_ _ | apply get_same | refine get_other ?_ (by first | assumption | omega | (simp only [AH.n_push, AH.n_set]; omega) | (dsimp only; omega) | (dsimp only; simp only [AH.n_push, AH.n_set]; omega)) | refine Le.get (by assumption) ?_) rfl rfl)) ⟨⟩ ?_
  refine xo_val rfl (a_range78 rfl hm) ⟨⟩ ?_
  refine xo_nil (t_norm ?_)
  refine w_block (w_loop (fun n fr h' => ∃ seen : List Nat, n + seen.length = bs.length ∧ Le h h' ∧ h'.get h.n = some (.iter (some m) clk seen clk) ∧ seen.Nodup ∧ (∀ b ∈ seen, b ∈ bs) ∧
    fr 14 = .pointer (some ⟨h.n, 0, none⟩) ∧ fr 3 = .int .i64 (seenSum d.lines bs seen)) bs.length ?_ ?_)
  · exact ⟨[], by simp, (Le.refl h).push _, AH.get_push_new _ _, .nil, by simp, rfl, by rw [seen_none]; rfl⟩
  rintro n fr h1 ⟨seen, hn, hle, hit, hnd, hin, e14, e3⟩
  rw [← fr_fix e14, ← fr_fix e3]
  have hm1 := hle.2 _ _ hm
  refine w_seq (w_region ?_)
  obtain ⟨l, hnx, hl⟩ := a_next_map (fr := (fr.put (some 3) (.int .i64 (seenSum d.lines bs seen))).put (some 14) (.pointer (some ⟨h.n, 0, none⟩))) (x := .tmp 14) rfl hit hm1 hes R.blt
  refine xo_any rfl hnx fun p hp => ⟨⟨⟩, ?_⟩
  rcases hl p hp with ⟨rfl, hall⟩ | ⟨i, kv, bn, hk, hbn, hns, rfl⟩
  · -- over
    refine xo_val rfl rfl ⟨⟩ ?_
    refine xo_nil (t_norm ?_)
    refine w_seq (w_cond rfl (fun e => by simp at e) fun _ => w_exit (t_exit ?_))
    refine b_here (id := 0) (t_norm (w_seq (w_region ?_)))
    refine xo_val rfl rfl ⟨⟩ ?_
    refine xo_val rfl rfl ⟨⟩ ?_
    refine xo_nil (t_norm ?_)
    refine w_ret (ret_of rfl ?_)
    have := hQ h1 hle
    unfold heldM at this
    rw [← seen_all d.lines bs seen R.blen hall] at this
    exact this
  · -- one line
    have hmn := AH.get_lt hm
    rw [List.getElem?_zipWith] at hk
    obtain ⟨ln, g, hln, hg, rfl⟩ : ∃ ln g, d.lines[i]? = some ln ∧ gs[i]? = some g ∧ kv = entry ln g := by
      cases hx : d.lines[i]? with
      | none => rw [hx] at hk; simp at hk
      | some ln =>
        cases hy : gs[i]? with
        | none => rw [hx, hy] at hk; simp at hk
        | some g => rw [hx, hy] at hk; simp at hk; exact ⟨ln, g, rfl, rfl, hk.symm⟩
    have hk' : (List.zipWith entry d.lines gs)[i]? = some (entry ln g) := by rw [List.getElem?_zipWith, hln, hg]
    obtain ⟨hL, hrow⟩ := R.line i ln g hln hg
    have hgn := AH.get_lt hL
    have hle2 : Le h (h1.set h.n (.iter (some m) clk (seen ++ [bn]) clk)) := hle.set (Nat.le_refl _) _
    have hit2 := get_same (p := .iter (some m) clk (seen ++ [bn]) clk) hit
    have hadd := seen_add d.lines bs seen i bn ln R.bnd hbn hln hns
    have hle3 := seen_le d.lines bs (seen ++ [bn])
    have hlen3 : seen.length + 1 ≤ bs.length := by
      have h1 : (seen ++ [bn]).Nodup := by
        rw [List.nodup_append]
        refine ⟨hnd, by simp, ?_⟩
        intro a ha b hb; simp at hb; subst hb; exact fun e => hns (e ▸ ha)
      have h2 := sub_len h1 (m := bs) (by
        intro x hx
        rcases List.mem_append.1 hx with hx | hx
        · exact hin x hx
        · simp at hx; subst hx; exact List.mem_of_getElem? hbn)
      simpa using h2
    have hm2 := hle2.2 _ _ hm
    have hL2 := hle2.2 _ _ hL
    refine xo_val rfl rfl ⟨⟩ ?_
    refine xo_nil (t_norm ?_)
    refine w_seq (w_cond rfl (fun _ => w_skip (t_norm ?_)) (fun e => by simp at e))
    refine w_block (w_seq (w_region ?_))
    refine xo_val rfl (a_entry_map rfl hit2 hm2 R.bnd hk' hbn) ⟨⟩ ?_
    refine xo_val rfl rfl ⟨⟩ ?_
    refine xo_val rfl rfl ⟨⟩ ?_
    refine xo_nil (t_norm ?_)
    refine w_seq (w_region ?_)
    refine xo_val rfl rfl ⟨⟩ ?_
    refine xo_val rfl rfl ⟨⟩ ?_
    refine xo_val rfl rfl ⟨⟩ ?_
    first | refine xo_val rfl (a_load_pp rfl rfl rfl rfl) ⟨⟩ ?_ | refine xo_val rfl (a_load rfl rfl rfl (cell_of (by repeat' first | assumption | exact AH.get_push_new _ _ | exact AH.get_push_at (by first | (simp only [AH.n_push, AH.n_set]; done) | (simp only [AH.n_push, AH.n_set]; rfl)) | refine AH.get_push_old ?_ _ | apply get_same | refine get_other ?_ (by first | assumption | omega | (simp only [AH.n_push, AH.n_set]; omega) | (dsimp only; omega) | (dsimp only; simp only [AH.n_push, AH.n_set]; omega)) | refine Le.get (by assumption) ?_) rfl rfl)) ⟨⟩ ?_
    refine xo_val rfl (a_len (v := .int .i64 ln.row.length) rfl rfl rfl rfl (by have := hrow.len (T := tab) (h' := h1.set h.n (.iter (some m) clk (seen ++ [bn]) clk)) (t := 83) rfl rfl; rw [List.length_map] at this; exact this)) ⟨⟩ ?_
    refine xo_val rfl rfl ⟨⟩ ?_
    refine xo_nil (t_norm ?_)
    refine w_block (w_loop (fun n2 fr h' => ∃ k : Nat, n2 + k = ln.row.length ∧ Le h h' ∧ h'.get h.n = some (.iter (some m) clk (seen ++ [bn]) clk) ∧
      fr 14 = .pointer (some ⟨h.n, 0, none⟩) ∧ fr 3 = .int .i64 ((seenSum d.lines bs seen + cntTo ln.row k : Nat) : Int) ∧ fr 22 = g.2 ∧ fr 23 = .int .i64 ln.row.length ∧ fr 24 = .int .i64 k) ln.row.length ?_ ?_)
    · exact ⟨0, by simp, hle2, hit2, rfl, rfl, rfl, rfl, rfl⟩
    rintro n2 fr2 h3 ⟨k, hnk, hle4, hit4, f14, f3, f22, f23, f24⟩
    rw [← fr_fix f14, ← fr_fix f3, ← fr_fix f22, ← fr_fix f23, ← fr_fix f24]
    refine w_seq (w_region ?_)
    refine xo_val rfl (a_bin rfl rfl (bin_lss _ _ _ _ _)) ⟨⟩ ?_
    refine xo_nil (t_norm ?_)
    refine w_seq (w_cond rfl (fun hlt => w_skip (t_norm ?_)) (fun hge => w_exit (t_exit ?_)))
    · have hlt : (k : Int) < ln.row.length := of_decide_eq_true hlt
      obtain ⟨fx, hfx⟩ : ∃ fx, ln.row[k]? = some fx := ⟨_, List.getElem?_eq_getElem (by omega)⟩
      obtain ⟨B', c', hv, hrow', hlen', hcell⟩ := hrow.at (map_at (f := foundV) hfx)
      rw [List.length_map] at hv
      have hrow3 := hle4.2 _ _ hrow'
      have hc1 := cntTo_succ hfx
      have hrl' := hrl ln (List.mem_of_getElem? hln)
      have hc2 := cntTo_le ln.row (k + 1)
      unfold heldM at hb
      unfold cnt at hadd
      refine w_seq (w_block (w_seq (w_region ?_)))
      refine xo_val rfl (a_ixs rfl rfl rfl hv rfl (by omega)) ⟨⟩ ?_
      refine xo_val rfl (a_loads rfl rfl rfl (cells_at (n := ((k : Int)).toNat * 2) (k := 2) (l := [setsV fx.sets, refsV fx.refs]) hrow3 rfl (by simpa using hlen') (by rw [Nat.zero_add]; exact hcell))) ⟨⟩ ?_
      refine xo_val rfl (a_alloc rfl) ⟨⟩ ?_
      refine xo_val rfl (a_store rfl rfl rfl rfl rfl (store_of (by repeat' first | assumption | exact AH.get_push_new _ _ | exact AH.get_push_at (by first | (simp only [AH.n_push, AH.n_set]; done) | (simp only [AH.n_push, AH.n_set]; rfl)) | refine AH.get_push_old ?_ _ | apply get_same | refine get_other ?_ (by first | assumption | omega | (simp only [AH.n_push, AH.n_set]; omega) | (dsimp only; omega) | (dsimp only; simp only [AH.n_push, AH.n_set]; omega)) | refine Le.get (by assumption) ?_) rfl rfl)) ⟨⟩ ?_
      refine xo_nil (t_norm ?_)
      refine w_region ?_
      refine xo_val rfl rfl ⟨⟩ ?_
      refine xo_val rfl rfl ⟨⟩ ?_
      first | refine xo_val rfl (a_load_pp rfl rfl rfl rfl) ⟨⟩ ?_ | refine xo_val rfl (a_load rfl rfl rfl (cell_of (by repeat' first | assumption | exact AH.get_push_new _ _ | exact AH.get_push_at (by first | (simp only [AH.n_push, AH.n_set]; done) | (simp only [AH.n_push, AH.n_set]; rfl)) | refine AH.get_push_old ?_ _ | apply get_same | refine get_other ?_ (by first | assumption | omega | (simp only [AH.n_push, AH.n_set]; omega) | (dsimp only; omega) | (dsimp only; simp only [AH.n_push, AH.n_set]; omega)) | refine Le.get (by assumption) ?_) rfl rfl)) ⟨⟩ ?_
      have hlr : (fx.refs.map refV).length = fx.refs.length := List.length_map ..
      refine xo_val rfl (a_len_ps (els := fx.refs.map refV) rfl rfl rfl rfl rfl rfl) ⟨⟩ ?_
      refine xo_val rfl (a_bin rfl rfl (bin_add64 _ _ _ _ (by omega))) ⟨⟩ ?_
      refine xo_val rfl rfl ⟨⟩ ?_
      refine xo_nil (b_norm (id := 3) (t_norm (w_region ?_)))
      refine xo_val rfl (a_bin rfl rfl (bin_add64 _ _ _ _ (by omega))) ⟨⟩ ?_
      refine xo_val rfl rfl ⟨⟩ ?_
      refine xo_nil ?_
      refine ⟨n2 - 1, by omega, k + 1, by omega, ((hle4.push _).set hle4.1 _), get_other (AH.get_push_old hit4 _) (Nat.ne_of_lt (AH.get_lt hit4)), rfl, ?_, rfl, rfl, rfl⟩
      exact congrArg (Value.int .i64) (show (((seenSum d.lines bs seen + cntTo ln.row k : Nat) : Int) + ((fx.refs.map refV).length : Int)) = ((seenSum d.lines bs seen + cntTo ln.row (k + 1) : Nat) : Int) by rw [hc1, hlr]; omega)
    · have hge : ¬ (k : Int) < ln.row.length := of_decide_eq_false hge
      have hk : k = ln.row.length := by omega
      subst hk
      refine b_here (id := 2) (b_norm (id := 1) ?_)
      refine ⟨n - 1, by omega, seen ++ [bn], by simp; omega, hle4, hit4, ?_, ?_, rfl, ?_⟩
      · rw [List.nodup_append]
        exact ⟨hnd, by simp, fun a ha b hb => by simp at hb; subst hb; exact fun e => hns (e ▸ ha)⟩
      · intro b hb
        rcases List.mem_append.1 hb with hb | hb
        · exact hin b hb
        · simp at hb; subst hb; exact List.mem_of_getElem? hbn
      · rw [hadd, ← cntTo_all]; rfl
end Go.AI.Q
