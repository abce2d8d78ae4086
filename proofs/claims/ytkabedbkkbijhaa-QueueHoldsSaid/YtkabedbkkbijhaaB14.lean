/-
  THE QUEUE'S DESK: Do. (Own work; steps printed by wip/gen/walk.py.)
-/
import Derived.Test.YtkabedbkkbijhaaB13
namespace Go.AI.Q
open Go Go.AI Go.Proofs
attribute [local irreducible] xOps xw
structure DoM where
  err : Int
  n : Int
  ms : List (List (List Int))
  refs : List Ref
  d : DeskM
structure Cmd where
  kind : Int
  id : Int
  n : Int
  ref : Ref
def cmdOf (c : Cmd) : Value := cmdV c.kind c.id c.n c.ref
def doM (d : DeskM) (stamp : Int) (c : Cmd) (outs : List Out) : DoM :=
  if c.kind = 2 then (if (d.lines.length : Int) ≥ d.q then ⟨16, 0, [], [], d⟩ else ⟨0, stamp, [], [], { d with lines := d.lines ++ [⟨stamp, [], false⟩] }⟩)
  else if c.kind = 3 then
    match findAt d.lines c.id with
    | none => ⟨15, 0, [], [], d⟩
    | some j => ⟨0, 0, [], ((d.lines[j]?).map fun l => l.row.flatMap (·.refs)).getD [], { d with lines := d.lines.eraseIdx j }⟩
  else if c.kind = 1 then ⟨0, stamp, [], (publishM d outs c.ref).1, (publishM d outs c.ref).2⟩
  else if c.kind = 4 then ⟨(pollM d c.id c.n).err, 0, (pollM d c.id c.n).ms, (pollM d c.id c.n).refs, (pollM d c.id c.n).d⟩
  else if c.kind = 5 then ⟨0, stamp, [], [], d⟩
  else ⟨1, 0, [], [], d⟩
theorem aFind_none {ls : List LineM} {gs : List (Nat × Value)} {id : Int} (hl : gs.length = ls.length) (hf : findAt ls id = none) : aFind (.int .i64) (.int .i64 id) (List.zipWith entry ls gs) 0 = some none := by
  rw [aFind_desk ls gs 0 hl, hf]
theorem aFind_some {ls : List LineM} {gs : List (Nat × Value)} {id : Int} {j : Nat} {g : Nat × Value} (hl : gs.length = ls.length) (hf : findAt ls id = some j) (hg : gs[j]? = some g) : aFind (.int .i64) (.int .i64 id) (List.zipWith entry ls gs) 0 = some (some (j, .pointer (some ⟨g.1, 0, none⟩))) := by
  rw [aFind_desk ls gs 0 hl, hf]
  simp [hg]
section
variable {h : AH} {D m : Nat} {gs : List (Nat × Value)} {bs : List Nat} {clk : Nat} {d : DeskM}
theorem upd_desk (R : DeskR h D m gs bs clk d) {stamp : Int} (hf : findAt d.lines stamp = none) (v : Value) : aMapUpdate tab h 78 (.map (some m)) (.int .i64 stamp) v = some (h.set m (.map (List.zipWith entry d.lines gs ++ [(.int .i64 stamp, v)]) (bs ++ [clk]) (clk + 1))) := by
  have t78 : tab 78 = some { ud := UD.map 3 82, size := 1, bytes := 8, zero := Value.map none, eqok := true } := rfl
  have t3 : tab 3 = some { ud := UD.int IntKind.i64, size := 1, bytes := 8, zero := Value.int IntKind.i64 0, eqok := true } := rfl
  have hm := R.map
  have hx := aFind_none R.len hf
  simp only [aMapUpdate, t78, t3, hm, primUD, if_true, hx]
theorem del_desk (R : DeskR h D m gs bs clk d) {id : Int} {j : Nat} (hf : findAt d.lines id = some j) : aDelete tab h 78 (.map (some m)) (.int .i64 id) = some (h.set m (.map ((List.zipWith entry d.lines gs).eraseIdx j) (bs.eraseIdx j) clk)) := by
  have t78 : tab 78 = some { ud := UD.map 3 82, size := 1, bytes := 8, zero := Value.map none, eqok := true } := rfl
  have t3 : tab 3 = some { ud := UD.int IntKind.i64, size := 1, bytes := 8, zero := Value.int IntKind.i64 0, eqok := true } := rfl
  have hm := R.map
  obtain ⟨ln, g, hl, hg, _, _⟩ := found R.len hf
  have hx := aFind_some R.len hf hg
  simp only [aDelete, t78, t3, hm, primUD, if_true, hx]
theorem a_len_m {T : Tab} {fr : Fr} {h : AH} {c : Call} {t k e : TypeId} {ti : TI} {x : Operand} {m clk : Nat} {es : List (Value × Value)} {bs : List Nat} (hc : c.callee = .builtin .len) (ht : c.argTypes.toList = [t]) (hx : c.args.toList = [x]) (hti : T t = some ti) (hu : ti.ud = .map k e) (e1 : ev fr x = .map (some m)) (hm : h.get m = some (.map es bs clk)) :
    aOp T fr h (.call c) = some (.val (.int .i64 es.length) h) := by
  refine a_len hc ht hx e1 ?_
  simp only [aLen, hti, hu, hm]; rfl
theorem a_mapUpdate {T : Tab} {fr : Fr} {h h' : AH} {t : TypeId} {x y z : Operand} {u v w : Value} (e1 : ev fr x = u) (e2 : ev fr y = v) (e3 : ev fr z = w) (hv : aMapUpdate T h t u v w = some h') : aOp T fr h (.mapUpdate t x y z) = some (.val undef h') := by
  simp only [aOp, e1, e2, e3, hv, uh, Option.map_some]
theorem a_delete {T : Tab} {fr : Fr} {h h' : AH} {c : Call} {t kt : TypeId} {x y : Operand} {u v : Value} (hc : c.callee = .builtin .delete) (ht : c.argTypes.toList = [t, kt]) (hx : c.args.toList = [x, y]) (e1 : ev fr x = u) (e2 : ev fr y = v) (hv : aDelete T h t u v = some h') : aOp T fr h (.call c) = some (.val (.tuple #[]) h') := by
  simp only [aOp, hc, aBuiltin, ht, hx, List.map_cons, List.map_nil, e1, e2, hv, Option.map_some]
theorem zip_erase {α β γ : Type} (f : α → β → γ) : ∀ (xs : List α) (ys : List β) (j : Nat), ys.length = xs.length → (List.zipWith f xs ys).eraseIdx j = List.zipWith f (xs.eraseIdx j) (ys.eraseIdx j)
  | [], [], j, _ => by simp
  | [], _ :: _, j, h => by simp at h
  | _ :: _, [], j, h => by simp at h
  | x :: xs, y :: ys, 0, h => by simp
  | x :: xs, y :: ys, j + 1, h => by simp [zip_erase f xs ys j (by simpa using h)]
theorem erase_at {α : Type} {xs : List α} {j i : Nat} {x : α} (h : (xs.eraseIdx j)[i]? = some x) : ∃ k, xs[k]? = some x ∧ k = (if i < j then i else i + 1) := by
  rw [List.getElem?_eraseIdx] at h
  split at h
  · rename_i hh; exact ⟨i, h, by rw [if_pos hh]⟩
  · rename_i hh; exact ⟨i + 1, h, by rw [if_neg hh]⟩
/-- A query is ended. -/
theorem DeskR.erase {h' : AH} {j : Nat} (R : DeskR h D m gs bs clk d) (hj : j < d.lines.length) (hB : But [m] h h') (hm : h'.get m = some (.map ((List.zipWith entry d.lines gs).eraseIdx j) (bs.eraseIdx j) clk)) : DeskR h' D m (gs.eraseIdx j) (bs.eraseIdx j) clk { d with lines := d.lines.eraseIdx j } := by
  have hle := R.len
  have hbl := R.blen
  refine ⟨hB.get R.desk (by simpa using R.sep.dm), ?_, ?_, ?_, R.bnd.sublist (List.eraseIdx_sublist ..), fun b hb => R.blt b ((List.eraseIdx_sublist ..).subset hb), ?_, ⟨R.sep.dm, ?_, ?_⟩, ?_⟩
  · rw [hm, zip_erase entry _ _ _ hle]
  · rw [List.length_eraseIdx, List.length_eraseIdx, hle]
  · rw [List.length_eraseIdx, List.length_eraseIdx, hbl]
  · intro i l g hl hg
    obtain ⟨k, hk, ek⟩ := erase_at hl
    obtain ⟨k', hk', ek'⟩ := erase_at hg
    obtain rfl : k' = k := by omega
    obtain ⟨a, b⟩ := R.line k' l g hk hk'
    have := R.sep.one k' g hk'
    exact ⟨hB.get a (by simpa using this.2.1), b.but hB fun x hx => by simp; rintro rfl; exact this.2.2.2.1 hx⟩
  · intro i g hg
    obtain ⟨k, hk, _⟩ := erase_at hg
    exact R.sep.one k g hk
  · intro i i' g g' hne hg hg'
    obtain ⟨k, hk, ek⟩ := erase_at hg
    obtain ⟨k', hk', ek'⟩ := erase_at hg'
    refine R.sep.two k k' g g' ?_ hk hk'
    rw [ek, ek']
    split <;> split <;> omega
  · have : (d.lines.eraseIdx j).map (·.id) = (d.lines.map (·.id)).eraseIdx j := map_eraseIdx _ _ _
    show ((d.lines.eraseIdx j).map (·.id)).Nodup
    rw [this]
    exact R.ids.sublist (List.eraseIdx_sublist ..)
theorem findAt_none {ls : List LineM} {id : Int} (h : findAt ls id = none) : id ∉ ls.map (·.id) := by
  unfold findAt at h
  rw [List.findIdx?_eq_none_iff] at h
  intro hm
  obtain ⟨l, hl, rfl⟩ := List.mem_map.1 hm
  have := h l hl
  simp at this
theorem get_snoc' {α : Type} {xs : List α} {y x : α} {i : Nat} (h : (xs ++ [y])[i]? = some x) : xs[i]? = some x ∨ x = y := by
  by_cases e : i < xs.length
  · rw [List.getElem?_append_left e] at h; exact .inl h
  · rw [List.getElem?_append_right (by omega)] at h
    cases hk : i - xs.length with
    | zero => rw [hk] at h; simp at h; exact .inr h.symm
    | succ k => rw [hk] at h; simp at h
theorem get_snoc {α : Type} {xs : List α} {y x : α} {i : Nat} (h : (xs ++ [y])[i]? = some x) : (i < xs.length ∧ xs[i]? = some x) ∨ (i = xs.length ∧ x = y) := by
  by_cases e : i < xs.length
  · rw [List.getElem?_append_left e] at h; exact .inl ⟨e, h⟩
  · rw [List.getElem?_append_right (by omega)] at h
    have hi : i - xs.length = 0 := by
      cases hk : i - xs.length with
      | zero => rfl
      | succ k => rw [hk] at h; simp at h
    rw [hi] at h; simp at h
    exact .inr ⟨by omega, h.symm⟩
/-- A query is registered. -/
theorem DeskR.add {h' : AH} {B : Nat} {stamp : Int} (R : DeskR h D m gs bs clk d) (hf : findAt d.lines stamp = none) (hBn : h.n ≤ B) (hB : But [m] h h') (hb : h'.get B = some (.row [.slice none 0 0, .bool false] true 0))
    (hm : h'.get m = some (.map (List.zipWith entry d.lines gs ++ [(.int .i64 stamp, .pointer (some ⟨B, 0, none⟩))]) (bs ++ [clk]) (clk + 1))) : DeskR h' D m (gs ++ [(B, .slice none 0 0)]) (bs ++ [clk]) (clk + 1) { d with lines := d.lines ++ [⟨stamp, [], false⟩] } := by
  have hle := R.len
  have hbl := R.blen
  have lt : ∀ (i : Nat) (g : Nat × Value), gs[i]? = some g → g.1 < h.n ∧ ∀ b ∈ rowBlk g.2, b < h.n := fun i g hg => ⟨R.lt (Fp_line hg (.inl rfl)), fun b hb => R.lt (Fp_line hg (.inr hb))⟩
  have hDn := AH.get_lt R.desk
  have hmn := AH.get_lt R.map
  refine ⟨hB.get R.desk (by simpa using R.sep.dm), ?_, by simp [hle], by simp [hbl], ?_, ?_, ?_, ⟨R.sep.dm, ?_, ?_⟩, ?_⟩
  · rw [hm, List.zipWith_append (by omega)]; rfl
  · rw [List.nodup_append]
    exact ⟨R.bnd, by simp, fun a ha b hb => by simp at hb; subst hb; have := R.blt a ha; omega⟩
  · intro b hb
    rcases List.mem_append.1 hb with x | x
    · have := R.blt b x; omega
    · simp at x; omega
  · intro i l g hl hg
    rcases get_snoc hl with ⟨a, hl⟩ | ⟨a, rfl⟩ <;> rcases get_snoc hg with ⟨b, hg⟩ | ⟨b, rfl⟩
    · obtain ⟨x, y⟩ := R.line i l g hl hg
      have := R.sep.one i g hg
      exact ⟨hB.get x (by simpa using this.2.1), y.but hB fun z hz => by simp; rintro rfl; exact this.2.2.2.1 hz⟩
    · omega
    · omega
    · exact ⟨hb, Acc.nil⟩
  · intro i g hg
    rcases get_snoc hg with ⟨b, hg⟩ | ⟨b, rfl⟩
    · exact R.sep.one i g hg
    · refine ⟨?_, ?_, ?_, ?_, ?_⟩ <;> simp [rowBlk] <;> omega
  · intro i i' g g' hne hg hg'
    rcases get_snoc hg with ⟨b, hg⟩ | ⟨b, rfl⟩ <;> rcases get_snoc hg' with ⟨b', hg'⟩ | ⟨b', rfl⟩
    · exact R.sep.two i i' g g' hne hg hg'
    · have := (lt i g hg).1
      refine ⟨by dsimp only; omega, by simp [rowBlk], fun b hb => by simp [rowBlk]⟩
    · have := lt i' g' hg'
      refine ⟨by dsimp only; omega, fun x => by have := this.2 _ x; dsimp only at this; omega, fun b hb => by simp [rowBlk] at hb⟩
    · omega
  · show ((d.lines ++ [(⟨stamp, [], false⟩ : LineM)]).map (fun l : LineM => l.id)).Nodup
    rw [List.map_append, List.nodup_append]
    exact ⟨R.ids, by simp, fun a ha b hb => by simp at hb; subst hb; exact fun e => findAt_none hf (e ▸ ha)⟩
end
structure OutsOk (c : Cmd) (outs : List Out) : Prop where
  ne : c.kind = 1 → outs ≠ []
  len : outs.length ≤ 1000
  lost : ∀ o ∈ outs, o.lost.length ≤ 1000000
  big : refsOf (mergeL (outs.map (·.hits))) ≤ 10000000
structure Sane (d : DeskM) : Prop where
  o : d.o ≤ 4096
  row : ∀ l ∈ d.lines, l.row.length ≤ 1000000 ∧ (l.row.map fun f => f.refs.length).sum ≤ 1000000
theorem nil2' {e n : Int} {h : AH} : Gs (fun _ => .tuple #[.agg #[.int .i64 e, .int .i64 n, .slice none 0 0], .slice none 0 0]) h (fun _ => .tuple #[ansV e n [], refsV []]) h := nil2
theorem do_ok {h : AH} {D m : Nat} {gs : List (Nat × Value)} {bs : List Nat} {clk : Nat} {d : DeskM} {stamp : Int} {c : Cmd} {outs : List Out} {ov : Value} {Q : AO → AH → Prop} (R : DeskR h D m gs bs clk d) (S : Sane d) (O : OutsOk c outs) (hov : c.kind = 1 → ov = outsV outs) (hst : findAt d.lines stamp = none)
    (hQ : ∀ h' gs' bs' clk', h.n ≤ h'.n → DeskR h' D m gs' bs' clk' (doM d stamp c outs).d → (∀ b ∈ Fp D m gs', b ∈ Fp D m gs ∨ h.n ≤ b) → (∀ b o, h.get b = some o → b ∉ Fp D m gs → h'.get b = some o) →
      Q (.ret (.tuple #[ansV (doM d stamp c outs).err (doM d stamp c outs).n (doM d stamp c outs).ms, refsV (doM d stamp c outs).refs])) h') :
    C 11 [.pointer (some ⟨D, 0, none⟩), .int .i64 stamp, cmdOf c, ov] h Q := by
  refine run_11 rfl ?_
  obtain ⟨kind, cid, cn, cref⟩ := c
  have hD := R.desk
  have hmap := R.map
  have hlk := look_desk R cid
  have hle2 := (((Le.refl h).push (.row (cmdOf ⟨kind, cid, cn, cref⟩).cells.toList true 0)).push (.row (Value.agg #[.int .i64 0, .int .i64 0, .slice none 0 0]).cells.toList true 0))
  -- an end at which nothing turned
  have fin : ∀ (e n : Int) (d' : DeskM), doM d stamp ⟨kind, cid, cn, cref⟩ outs = ⟨e, n, [], [], d⟩ → Q (.ret (.tuple #[ansV e n [], refsV []])) (((h.push (.row (cmdOf ⟨kind, cid, cn, cref⟩).cells.toList true 0)).push (.row (Value.agg #[.int .i64 0, .int .i64 0, .slice none 0 0]).cells.toList true 0)).set (h.n + 1) (.row [.int .i64 e, .int .i64 n, .slice none 0 0] true 0)) := by
    intro e n d' hM
    rw [hM] at hQ
    have hle3 := hle2.set (B := h.n + 1) (by omega) (.row [.int .i64 e, .int .i64 n, .slice none 0 0] true 0)
    exact hQ _ gs bs clk hle3.1 (R.le hle3) (fun b hb => .inl hb) (fun b o e _ => hle3.get e)
  refine w_seq (w_region ?_)
  refine xo_val rfl (a_box rfl rfl) ⟨⟩ ?_
  refine xo_val rfl (a_alloc rfl) ⟨⟩ ?_
  refine xo_val rfl rfl ⟨⟩ ?_
  refine xo_nil (t_norm ?_)
  refine w_seq ?_
  refine w_seq (w_region ?_)
  refine xo_val rfl rfl ⟨⟩ ?_
  first | refine xo_val rfl (a_bin rfl rfl (bin_eql _ _ _ _ _)) ⟨⟩ ?_ | refine xo_val rfl rfl ⟨⟩ ?_
  refine xo_nil (t_norm ?_)
  refine w_cond rfl (fun e => by cases e) (fun _ => w_skip (t_norm ?_))
  refine w_seq ?_
  refine w_seq (w_region ?_)
  refine xo_val rfl rfl ⟨⟩ ?_
  first | refine xo_val rfl (a_load_pp rfl rfl rfl rfl) ⟨⟩ ?_ | refine xo_val rfl (a_load rfl rfl rfl (cell_of (by repeat' first | assumption | exact AH.get_push_new _ _ | exact AH.get_push_at (by first | (simp only [AH.n_push, AH.n_set]; done) | (simp only [AH.n_push, AH.n_set]; rfl)) | refine AH.get_push_old ?_ _ | apply get_same | refine get_other ?_ (by first | assumption | omega | (simp only [AH.n_push, AH.n_set]; omega) | (dsimp only; omega) | (dsimp only; simp only [AH.n_push, AH.n_set]; omega)) | refine Le.get (by assumption) ?_) rfl rfl)) ⟨⟩ ?_
  refine xo_nil (t_norm ?_)
  refine w_block ?_
  refine w_seq (w_region ?_)
  first | refine xo_val rfl (a_bin rfl rfl (bin_eql _ _ _ _ _)) ⟨⟩ ?_ | refine xo_val rfl rfl ⟨⟩ ?_
  refine xo_val rfl rfl ⟨⟩ ?_
  refine xo_nil (t_norm ?_)
  by_cases k2 : kind = 2
  · subst k2
    refine w_cond rfl (fun _ => ?_) (fun e => by cases e)
    refine w_seq ?_
    refine w_seq (w_region ?_)
    refine xo_val rfl rfl ⟨⟩ ?_
    refine xo_val rfl rfl ⟨⟩ ?_
    refine xo_val rfl rfl ⟨⟩ ?_
    first | refine xo_val rfl (a_load_pp rfl rfl rfl rfl) ⟨⟩ ?_ | refine xo_val rfl (a_load rfl rfl rfl (cell_of (by repeat' first | assumption | exact AH.get_push_new _ _ | exact AH.get_push_at (by first | (simp only [AH.n_push, AH.n_set]; done) | (simp only [AH.n_push, AH.n_set]; rfl)) | refine AH.get_push_old ?_ _ | apply get_same | refine get_other ?_ (by first | assumption | omega | (simp only [AH.n_push, AH.n_set]; omega) | (dsimp only; omega) | (dsimp only; simp only [AH.n_push, AH.n_set]; omega)) | refine Le.get (by assumption) ?_) rfl rfl)) ⟨⟩ ?_
    have hzl : (List.zipWith entry d.lines gs).length = d.lines.length := by simp [R.len]
    refine xo_val (v := .int .i64 d.lines.length) rfl (by rw [← hzl]; exact a_len_m rfl rfl rfl rfl rfl rfl (hle2.get hmap)) ⟨⟩ ?_
    refine xo_val rfl rfl ⟨⟩ ?_
    refine xo_val rfl rfl ⟨⟩ ?_
    refine xo_val rfl rfl ⟨⟩ ?_
    refine xo_val rfl rfl ⟨⟩ ?_
    first | refine xo_val rfl (a_load_pp rfl rfl rfl rfl) ⟨⟩ ?_ | refine xo_val rfl (a_load rfl rfl rfl (cell_of (by repeat' first | assumption | exact AH.get_push_new _ _ | exact AH.get_push_at (by first | (simp only [AH.n_push, AH.n_set]; done) | (simp only [AH.n_push, AH.n_set]; rfl)) | refine AH.get_push_old ?_ _ | apply get_same | refine get_other ?_ (by first | assumption | omega | (simp only [AH.n_push, AH.n_set]; omega) | (dsimp only; omega) | (dsimp only; simp only [AH.n_push, AH.n_set]; omega)) | refine Le.get (by assumption) ?_) rfl rfl)) ⟨⟩ ?_
    refine xo_val rfl (a_bin rfl rfl (bin_geq _ _ _ _ _)) ⟨⟩ ?_
    refine xo_nil (t_norm ?_)
    by_cases hfull : (d.lines.length : Int) ≥ d.q
    · have hd : decide ((d.lines.length : Int) ≥ d.q) = true := decide_eq_true hfull
      refine w_cond rfl (fun _ => ?_) (fun e => by rw [hd] at e; cases e)
      refine w_seq (w_region ?_)
      refine xo_val rfl (a_struct (l := [_, _, _]) rfl rfl rfl rfl) ⟨⟩ ?_
      refine xo_val rfl (a_store rfl rfl rfl rfl rfl (store_of (by repeat' first | assumption | exact AH.get_push_new _ _ | exact AH.get_push_at (by first | (simp only [AH.n_push, AH.n_set]; done) | (simp only [AH.n_push, AH.n_set]; rfl)) | refine AH.get_push_old ?_ _ | apply get_same | refine get_other ?_ (by first | assumption | omega | (simp only [AH.n_push, AH.n_set]; omega) | (dsimp only; omega) | (dsimp only; simp only [AH.n_push, AH.n_set]; omega)) | refine Le.get (by assumption) ?_) rfl rfl)) ⟨⟩ ?_
      refine xo_val rfl rfl ⟨⟩ ?_
      refine xo_nil (t_norm ?_)
      refine w_ret (t_ret (b_ret (t_ret (ret_give (rs_cell rfl rfl rfl (cells_of (get_same (by repeat' first | assumption | exact AH.get_push_new _ _ | exact AH.get_push_at (by first | (simp only [AH.n_push, AH.n_set]; done) | (simp only [AH.n_push, AH.n_set]; rfl)) | refine AH.get_push_old ?_ _ | apply get_same | refine get_other ?_ (by first | assumption | omega | (simp only [AH.n_push, AH.n_set]; omega) | (dsimp only; omega) | (dsimp only; simp only [AH.n_push, AH.n_set]; omega)) | refine Le.get (by assumption) ?_)) rfl rfl rfl) (rs_tmp rfl rs_nil)) nil2 ?_))))
      exact fin 16 0 d (by unfold doM; simp [hfull])
    have hd : decide ((d.lines.length : Int) ≥ d.q) = false := decide_eq_false hfull
    refine w_cond rfl (fun e => by rw [hd] at e; cases e) (fun _ => w_skip (t_norm ?_))
    have R2 := (R.le hle2).le ((Le.refl _).push (.row [.slice none 0 0, .bool false] true 0))
    refine w_seq (w_region ?_)
    refine xo_val rfl rfl ⟨⟩ ?_
    refine xo_val rfl rfl ⟨⟩ ?_
    refine xo_val rfl rfl ⟨⟩ ?_
    first | refine xo_val rfl (a_load_pp rfl rfl rfl rfl) ⟨⟩ ?_ | refine xo_val rfl (a_load rfl rfl rfl (cell_of (by repeat' first | assumption | exact AH.get_push_new _ _ | exact AH.get_push_at (by first | (simp only [AH.n_push, AH.n_set]; done) | (simp only [AH.n_push, AH.n_set]; rfl)) | refine AH.get_push_old ?_ _ | apply get_same | refine get_other ?_ (by first | assumption | omega | (simp only [AH.n_push, AH.n_set]; omega) | (dsimp only; omega) | (dsimp only; simp only [AH.n_push, AH.n_set]; omega)) | refine Le.get (by assumption) ?_) rfl rfl)) ⟨⟩ ?_
    refine xo_val rfl rfl ⟨⟩ ?_
    refine xo_val rfl (a_struct (l := [_, _]) rfl rfl rfl rfl) ⟨⟩ ?_
    refine xo_val rfl (a_box rfl rfl) ⟨⟩ ?_
    refine xo_val rfl (a_mapUpdate rfl rfl rfl (upd_desk R2 hst _)) ⟨⟩ ?_
    refine xo_nil (t_norm ?_)
    have hmn := AH.get_lt hmap
    have c8 : ((((h.push (.row (cmdOf ⟨2, cid, cn, cref⟩).cells.toList true 0)).push (.row (Value.agg #[.int .i64 0, .int .i64 0, .slice none 0 0]).cells.toList true 0)).push (.row [.slice none 0 0, .bool false] true 0)).set m
        (.map (List.zipWith entry d.lines gs ++ [(.int .i64 stamp, .pointer (some ⟨h.n + 2, 0, none⟩))]) (bs ++ [clk]) (clk + 1))).get (h.n + 1) = some (.row [.int .i64 0, .int .i64 0, .slice none 0 0] true 0) := get_other (by repeat' first | assumption | exact AH.get_push_new _ _ | exact AH.get_push_at (by first | (simp only [AH.n_push, AH.n_set]; done) | (simp only [AH.n_push, AH.n_set]; rfl)) | refine AH.get_push_old ?_ _ | apply get_same | refine get_other ?_ (by first | assumption | omega | (simp only [AH.n_push, AH.n_set]; omega) | (dsimp only; omega) | (dsimp only; simp only [AH.n_push, AH.n_set]; omega)) | refine Le.get (by assumption) ?_) (by omega)
    refine w_seq (w_region ?_)
    refine xo_val rfl rfl ⟨⟩ ?_
    refine xo_val rfl (a_struct (l := [_, _, _]) rfl rfl rfl rfl) ⟨⟩ ?_
    refine xo_val rfl (a_store rfl rfl rfl rfl rfl (store_of c8 rfl rfl)) ⟨⟩ ?_
    refine xo_val rfl rfl ⟨⟩ ?_
    refine xo_nil (t_norm ?_)
    refine w_ret (b_ret (t_ret (ret_give (rs_cell rfl rfl rfl (cells_of (get_same c8) rfl rfl rfl) (rs_tmp rfl rs_nil)) nil2 ?_)))
    have hM : doM d stamp ⟨2, cid, cn, cref⟩ outs = ⟨0, stamp, [], [], { d with lines := d.lines ++ [⟨stamp, [], false⟩] }⟩ := by unfold doM; simp [hfull]
    rw [hM] at hQ
    have hB : But [m] h (((((h.push (.row (cmdOf ⟨2, cid, cn, cref⟩).cells.toList true 0)).push (.row (Value.agg #[.int .i64 0, .int .i64 0, .slice none 0 0]).cells.toList true 0)).push (.row [.slice none 0 0, .bool false] true 0)).set m
        (.map (List.zipWith entry d.lines gs ++ [(.int .i64 stamp, .pointer (some ⟨h.n + 2, 0, none⟩))]) (bs ++ [clk]) (clk + 1))).set (h.n + 1) (.row [.int .i64 0, .int .i64 stamp, .slice none 0 0] true 0)) :=
      (((hle2.push _).but _).set (.inl (List.mem_singleton.2 rfl)) _).set (.inr (by omega)) _
    have R3 := R.add (B := h.n + 2) hst (by omega) hB (get_other (get_other (by repeat' first | assumption | exact AH.get_push_new _ _ | exact AH.get_push_at (by first | (simp only [AH.n_push, AH.n_set]; done) | (simp only [AH.n_push, AH.n_set]; rfl)) | refine AH.get_push_old ?_ _ | apply get_same | refine get_other ?_ (by first | assumption | omega | (simp only [AH.n_push, AH.n_set]; omega) | (dsimp only; omega) | (dsimp only; simp only [AH.n_push, AH.n_set]; omega)) | refine Le.get (by assumption) ?_) (by omega)) (by omega)) (get_other (get_same (AH.get_push_old (hle2.get hmap) _)) (by omega))
    refine hQ _ _ _ _ hB.1 R3 (fun b hb => ?_) (fun b o e hb => hB.get e fun x => hb (by simp at x; subst x; simp [Fp]))
    rcases Fp_mem.1 hb with rfl | rfl | ⟨i, g, hg, hb⟩
    · exact .inl (by simp [Fp])
    · exact .inl (by simp [Fp])
    · rcases get_snoc' hg with hg | rfl
      · exact .inl (Fp_line hg hb)
      · right
        rcases hb with rfl | hb
        · omega
        · simp [rowBlk] at hb
  have hk2 : (kind == 2) = false := by simpa using k2
  refine w_cond rfl (fun e => by rw [hk2] at e; cases e) (fun _ => ?_)
  refine w_seq (w_region ?_)
  first | refine xo_val rfl (a_bin rfl rfl (bin_eql _ _ _ _ _)) ⟨⟩ ?_ | refine xo_val rfl rfl ⟨⟩ ?_
  refine xo_val rfl rfl ⟨⟩ ?_
  refine xo_nil (t_norm ?_)
  by_cases k3 : kind = 3
  · subst k3
    refine w_cond rfl (fun _ => ?_) (fun e => by cases e)
    refine w_seq (w_region ?_)
    refine xo_val rfl rfl ⟨⟩ ?_
    refine xo_val rfl rfl ⟨⟩ ?_
    refine xo_val rfl rfl ⟨⟩ ?_
    first | refine xo_val rfl (a_load_pp rfl rfl rfl rfl) ⟨⟩ ?_ | refine xo_val rfl (a_load rfl rfl rfl (cell_of (by repeat' first | assumption | exact AH.get_push_new _ _ | exact AH.get_push_at (by first | (simp only [AH.n_push, AH.n_set]; done) | (simp only [AH.n_push, AH.n_set]; rfl)) | refine AH.get_push_old ?_ _ | apply get_same | refine get_other ?_ (by first | assumption | omega | (simp only [AH.n_push, AH.n_set]; omega) | (dsimp only; omega) | (dsimp only; simp only [AH.n_push, AH.n_set]; omega)) | refine Le.get (by assumption) ?_) rfl rfl)) ⟨⟩ ?_
    refine xo_val rfl rfl ⟨⟩ ?_
    first | refine xo_val rfl (a_load_pp rfl rfl rfl rfl) ⟨⟩ ?_ | refine xo_val rfl (a_load rfl rfl rfl (cell_of (by repeat' first | assumption | exact AH.get_push_new _ _ | exact AH.get_push_at (by first | (simp only [AH.n_push, AH.n_set]; done) | (simp only [AH.n_push, AH.n_set]; rfl)) | refine AH.get_push_old ?_ _ | apply get_same | refine get_other ?_ (by first | assumption | omega | (simp only [AH.n_push, AH.n_set]; omega) | (dsimp only; omega) | (dsimp only; simp only [AH.n_push, AH.n_set]; omega)) | refine Le.get (by assumption) ?_) rfl rfl)) ⟨⟩ ?_
    refine xo_val rfl (a_lookup rfl rfl (look_desk (R.le hle2) cid)) ⟨⟩ ?_
    refine xo_val rfl rfl ⟨⟩ ?_
    refine xo_nil (t_norm ?_)
    refine w_seq ?_
    cases hj : findAt d.lines cid with
    | none =>
      have hv : lookV d gs cid = .pointer none := by unfold lookV; rw [hj]
      rw [hv]
      refine w_seq (w_region ?_)
      refine xo_val rfl rfl ⟨⟩ ?_
      first | refine xo_val rfl (a_bin rfl rfl (bin_eql _ _ _ _ _)) ⟨⟩ ?_ | refine xo_val rfl rfl ⟨⟩ ?_
      refine xo_nil (t_norm ?_)
      refine w_cond rfl (fun _ => ?_) (fun e => by cases e)
      refine w_seq (w_region ?_)
      refine xo_val rfl (a_struct (l := [_, _, _]) rfl rfl rfl rfl) ⟨⟩ ?_
      refine xo_val rfl (a_store rfl rfl rfl rfl rfl (store_of (by repeat' first | assumption | exact AH.get_push_new _ _ | exact AH.get_push_at (by first | (simp only [AH.n_push, AH.n_set]; done) | (simp only [AH.n_push, AH.n_set]; rfl)) | refine AH.get_push_old ?_ _ | apply get_same | refine get_other ?_ (by first | assumption | omega | (simp only [AH.n_push, AH.n_set]; omega) | (dsimp only; omega) | (dsimp only; simp only [AH.n_push, AH.n_set]; omega)) | refine Le.get (by assumption) ?_) rfl rfl)) ⟨⟩ ?_
      refine xo_val rfl rfl ⟨⟩ ?_
      refine xo_nil (t_norm ?_)
      refine w_ret (t_ret (b_ret (t_ret (ret_give (rs_cell rfl rfl rfl (cells_of (get_same (by repeat' first | assumption | exact AH.get_push_new _ _ | exact AH.get_push_at (by first | (simp only [AH.n_push, AH.n_set]; done) | (simp only [AH.n_push, AH.n_set]; rfl)) | refine AH.get_push_old ?_ _ | apply get_same | refine get_other ?_ (by first | assumption | omega | (simp only [AH.n_push, AH.n_set]; omega) | (dsimp only; omega) | (dsimp only; simp only [AH.n_push, AH.n_set]; omega)) | refine Le.get (by assumption) ?_)) rfl rfl rfl) (rs_tmp rfl rs_nil)) nil2 ?_))))
      exact fin 15 0 d (by unfold doM; simp [hj])
    | some j =>
      obtain ⟨ln, g, hl, hg, hid, hv⟩ := found R.len hj
      obtain ⟨hL, hrw⟩ := R.line j ln g hl hg
      obtain ⟨hb1, hb2⟩ := S.row ln (List.mem_of_getElem? hl)
      have hjl := (List.getElem?_eq_some_iff.1 hl).1
      rw [hv]
      refine w_seq (w_region ?_)
      refine xo_val rfl rfl ⟨⟩ ?_
      first | refine xo_val rfl (a_bin rfl rfl (bin_eql _ _ _ _ _)) ⟨⟩ ?_ | refine xo_val rfl rfl ⟨⟩ ?_
      refine xo_nil (t_norm ?_)
      refine w_cond rfl (fun e => by cases e) (fun _ => w_skip (t_norm ?_))
      refine w_seq (w_region ?_)
      refine xo_val rfl rfl ⟨⟩ ?_
      refine xo_nil (t_norm ?_)
      refine w_seq ?_
      refine w_seq (w_region ?_)
      refine xo_val rfl rfl ⟨⟩ ?_
      refine xo_val rfl rfl ⟨⟩ ?_
      refine xo_val rfl rfl ⟨⟩ ?_
      first | refine xo_val rfl (a_load_pp rfl rfl rfl rfl) ⟨⟩ ?_ | refine xo_val rfl (a_load rfl rfl rfl (cell_of (by repeat' first | assumption | exact AH.get_push_new _ _ | exact AH.get_push_at (by first | (simp only [AH.n_push, AH.n_set]; done) | (simp only [AH.n_push, AH.n_set]; rfl)) | refine AH.get_push_old ?_ _ | apply get_same | refine get_other ?_ (by first | assumption | omega | (simp only [AH.n_push, AH.n_set]; omega) | (dsimp only; omega) | (dsimp only; simp only [AH.n_push, AH.n_set]; omega)) | refine Le.get (by assumption) ?_) rfl rfl)) ⟨⟩ ?_
      refine xo_val rfl (a_len_accm hrw rfl rfl rfl rfl rfl rfl) ⟨⟩ ?_
      refine xo_val rfl rfl ⟨⟩ ?_
      refine xo_nil (t_norm ?_)
      generalize hH : AH.push _ _ = hb at hle2 ⊢
      have c6 : hb.get h.n = some (.row [.int .i64 3, .int .i64 cid, .int .i64 cn, .int .i64 0, .int .i64 0, .int .i64 0, .int .i64 0, .int .i64 0, .int .i64 0, .int .i64 cref.slot, .int .i64 cref.gen, .slice none 0 0, .int .i64 0, .bool false] true 0) := by rw [← hH]; exact (by repeat' first | assumption | exact AH.get_push_new _ _ | exact AH.get_push_at (by first | (simp only [AH.n_push, AH.n_set]; done) | (simp only [AH.n_push, AH.n_set]; rfl)) | refine AH.get_push_old ?_ _ | apply get_same | refine get_other ?_ (by first | assumption | omega | (simp only [AH.n_push, AH.n_set]; omega) | (dsimp only; omega) | (dsimp only; simp only [AH.n_push, AH.n_set]; omega)) | refine Le.get (by assumption) ?_)
      have c8 : hb.get (h.n + 1) = some (.row [.int .i64 0, .int .i64 0, .slice none 0 0] true 0) := by rw [← hH]; exact (by repeat' first | assumption | exact AH.get_push_new _ _ | exact AH.get_push_at (by first | (simp only [AH.n_push, AH.n_set]; done) | (simp only [AH.n_push, AH.n_set]; rfl)) | refine AH.get_push_old ?_ _ | apply get_same | refine get_other ?_ (by first | assumption | omega | (simp only [AH.n_push, AH.n_set]; omega) | (dsimp only; omega) | (dsimp only; simp only [AH.n_push, AH.n_set]; omega)) | refine Le.get (by assumption) ?_)
      have hbn : hb.n = h.n + 2 := by rw [← hH]; rfl
      clear fin
      have hrow2 := hrw.le hle2
      refine w_block (w_loop (fun N fr h' => ∃ (i : Nat) (rv : Value), N + i = ln.row.length ∧ Le hb h' ∧ Acc h' 2 rv (((ln.row.take i).flatMap (·.refs)).map refV) ∧ (∀ b ∈ rowBlk rv, hb.n ≤ b) ∧
        fr 0 = .pointer (some ⟨D, 0, none⟩) ∧ fr 6 = .pointer (some ⟨h.n, 0, none⟩) ∧ fr 8 = .pointer (some ⟨h.n + 1, 0, none⟩) ∧ fr 11 = rv ∧ fr 57 = g.2 ∧ fr 58 = .int .i64 ln.row.length ∧ fr 59 = .int .i64 i) ln.row.length ?_ ?_)
      · exact ⟨0, .slice none 0 0, rfl, (by rw [← hH]; exact Le.refl _), Acc.nil, fun b hb => by simp [rowBlk] at hb, rfl, rfl, rfl, rfl, rfl, rfl, rfl⟩
      clear hH
      rintro N fr h4 ⟨i, rv, hN, hle4, Ar, hrb, f0, f6, f8, f11, f57, f58, f59⟩
      rw [← fr_fix f0, ← fr_fix f6, ← fr_fix f8, ← fr_fix f11, ← fr_fix f57, ← fr_fix f58, ← fr_fix f59]
      refine w_seq (w_region ?_)
      refine xo_val rfl (a_bin rfl rfl (bin_lss _ _ _ _ _)) ⟨⟩ ?_
      refine xo_nil (t_norm ?_)
      refine w_seq (w_cond rfl (fun hlt => w_skip (t_norm ?_)) (fun hge => w_exit (t_exit ?_)))
      · have hlt : (i : Int) < ln.row.length := of_decide_eq_true hlt
        obtain ⟨fx, hfx⟩ : ∃ fx, ln.row[i]? = some fx := ⟨_, List.getElem?_eq_getElem (by omega)⟩
        obtain ⟨B, c, hu1, hrow1, hlen1, hc1⟩ := hrow2.at (map_at (f := foundV) hfx)
        rw [List.length_map] at hu1
        have hrow4 := hle4.get hrow1
        have hn4 := hle4.1
        refine w_seq (w_block ?_)
        refine w_seq (w_region ?_)
        refine xo_val rfl (a_ixs rfl rfl rfl hu1 rfl (by omega)) ⟨⟩ ?_
        refine xo_val rfl (a_loads rfl rfl rfl (cells_at (n := ((i : Nat) : Int).toNat * 2) (k := 2) (l := [setsV fx.sets, refsV fx.refs]) hrow4 rfl (by simpa using hlen1) (by rw [Nat.zero_add]; exact hc1))) ⟨⟩ ?_
        refine xo_val rfl (a_alloc rfl) ⟨⟩ ?_
        refine xo_val rfl (a_store rfl rfl rfl rfl rfl (store_of (by repeat' first | assumption | exact AH.get_push_new _ _ | exact AH.get_push_at (by first | (simp only [AH.n_push, AH.n_set]; done) | (simp only [AH.n_push, AH.n_set]; rfl)) | refine AH.get_push_old ?_ _ | apply get_same | refine get_other ?_ (by first | assumption | omega | (simp only [AH.n_push, AH.n_set]; omega) | (dsimp only; omega) | (dsimp only; simp only [AH.n_push, AH.n_set]; omega)) | refine Le.get (by assumption) ?_) rfl rfl)) ⟨⟩ ?_
        refine xo_nil (t_norm ?_)
        have hle5 := ((Le.refl h4).push (.row (Value.agg #[.slice none 0 0, .slice none 0 0]).cells.toList true 0)).set (B := h4.n) (Nat.le_refl _) (.row [setsV fx.sets, refsV fx.refs] true 0)
        have htk : ((ln.row.take (i + 1)).flatMap (·.refs)).length ≤ 1000000 := by
          rw [List.length_flatMap]
          have h1 := cntTo_le ln.row (i + 1)
          unfold cntTo at h1
          omega
        obtain ⟨p2, hp2, Ar4, hB9, hbl9⟩ := acc_append (T := tab) (t := 30) (xt := 30) (x := refsV fx.refs) (Ar.le hle5) t30 rfl (fun _ e => by cases e) rfl (ps_src rfl) (sz_ref fx.refs) (by
          rw [List.take_add_one, hfx] at htk
          simp only [Option.toList_some, List.flatMap_append, List.length_append, List.flatMap_cons, List.flatMap_nil, List.append_nil] at htk
          exact roomOk_of (by simp only [List.length_map]; omega) (by simp only [List.length_map]; omega))
        obtain ⟨rv', h9⟩ := p2
        dsimp only at Ar4 hB9 hbl9
        simp only [AH.n_set, AH.n_push] at hbl9
        refine w_region ?_
        refine xo_val rfl rfl ⟨⟩ ?_
        refine xo_val rfl rfl ⟨⟩ ?_
        first | refine xo_val rfl (a_load_pp rfl rfl rfl rfl) ⟨⟩ ?_ | refine xo_val rfl (a_load rfl rfl rfl (cell_of (by repeat' first | assumption | exact AH.get_push_new _ _ | exact AH.get_push_at (by first | (simp only [AH.n_push, AH.n_set]; done) | (simp only [AH.n_push, AH.n_set]; rfl)) | refine AH.get_push_old ?_ _ | apply get_same | refine get_other ?_ (by first | assumption | omega | (simp only [AH.n_push, AH.n_set]; omega) | (dsimp only; omega) | (dsimp only; simp only [AH.n_push, AH.n_set]; omega)) | refine Le.get (by assumption) ?_) rfl rfl)) ⟨⟩ ?_
        refine xo_val rfl (a_append rfl rfl rfl rfl rfl hp2) ⟨⟩ ?_
        refine xo_val rfl rfl ⟨⟩ ?_
        refine xo_nil (b_norm (t_norm ?_))
        refine w_region ?_
        refine xo_val rfl (a_bin rfl rfl (bin_add64 _ _ _ _ (by omega))) ⟨⟩ ?_
        refine xo_val rfl rfl ⟨⟩ ?_
        refine xo_nil ?_
        have e2 : ((ln.row.take i).flatMap (·.refs)).map refV ++ fx.refs.map refV = ((ln.row.take (i + 1)).flatMap (·.refs)).map refV := by rw [List.take_add_one, hfx]; simp
        rw [e2] at Ar4
        exact ⟨N - 1, by omega, i + 1, rv', by omega, hB9.le (hle4.trans hle5) hrb, Ar4, fun b hb' => (hbl9 b hb').elim (hrb b) (by omega), rfl, rfl, rfl, rfl, rfl, rfl, rfl⟩
      · have hge : ¬ (i : Int) < ln.row.length := of_decide_eq_false hge
        have hik : i = ln.row.length := by omega
        subst hik
        rw [List.take_length] at Ar
        have R4 := (R.le hle2).le hle4
        have hD4 := R4.desk
        have hm4 := R4.map
        have c64 := hle4.get c6
        have c84 := hle4.get c8
        have hmn := AH.get_lt hmap
        refine b_here (id := 1) (t_norm ?_)
        refine w_seq (w_region ?_)
        refine xo_val rfl rfl ⟨⟩ ?_
        refine xo_val rfl rfl ⟨⟩ ?_
        refine xo_val rfl rfl ⟨⟩ ?_
        first | refine xo_val rfl (a_load_pp rfl rfl rfl rfl) ⟨⟩ ?_ | refine xo_val rfl (a_load rfl rfl rfl (cell_of (by repeat' first | assumption | exact AH.get_push_new _ _ | exact AH.get_push_at (by first | (simp only [AH.n_push, AH.n_set]; done) | (simp only [AH.n_push, AH.n_set]; rfl)) | refine AH.get_push_old ?_ _ | apply get_same | refine get_other ?_ (by first | assumption | omega | (simp only [AH.n_push, AH.n_set]; omega) | (dsimp only; omega) | (dsimp only; simp only [AH.n_push, AH.n_set]; omega)) | refine Le.get (by assumption) ?_) rfl rfl)) ⟨⟩ ?_
        refine xo_val rfl rfl ⟨⟩ ?_
        first | refine xo_val rfl (a_load_pp rfl rfl rfl rfl) ⟨⟩ ?_ | refine xo_val rfl (a_load rfl rfl rfl (cell_of (by repeat' first | assumption | exact AH.get_push_new _ _ | exact AH.get_push_at (by first | (simp only [AH.n_push, AH.n_set]; done) | (simp only [AH.n_push, AH.n_set]; rfl)) | refine AH.get_push_old ?_ _ | apply get_same | refine get_other ?_ (by first | assumption | omega | (simp only [AH.n_push, AH.n_set]; omega) | (dsimp only; omega) | (dsimp only; simp only [AH.n_push, AH.n_set]; omega)) | refine Le.get (by assumption) ?_) rfl rfl)) ⟨⟩ ?_
        refine xo_val rfl (a_delete rfl rfl rfl rfl rfl (del_desk R4 hj)) ⟨⟩ ?_
        refine xo_nil (t_norm ?_)
        have c85 : (h4.set m (.map ((List.zipWith entry d.lines gs).eraseIdx j) (bs.eraseIdx j) clk)).get (h.n + 1) = some (.row [.int .i64 0, .int .i64 0, .slice none 0 0] true 0) := get_other c84 (by omega)
        refine w_seq (w_region ?_)
        refine xo_val rfl (a_struct (l := [_, _, _]) rfl rfl rfl rfl) ⟨⟩ ?_
        refine xo_val rfl rfl ⟨⟩ ?_
        refine xo_val rfl (a_store rfl rfl rfl rfl rfl (store_of c85 rfl rfl)) ⟨⟩ ?_
        refine xo_val rfl rfl ⟨⟩ ?_
        refine xo_nil (t_norm ?_)
        have Ar5 : Acc ((h4.set m (.map ((List.zipWith entry d.lines gs).eraseIdx j) (bs.eraseIdx j) clk)).set (h.n + 1) (.row [.int .i64 0, .int .i64 0, .slice none 0 0] true 0)) 2 rv ((ln.row.flatMap (·.refs)).map refV) :=
          Ar.stay fun b hb' o e => by have := hrb b hb'; exact get_other (get_other e (by omega)) (by omega)
        obtain ⟨h8, hG2, hB8⟩ := Ar5.give (fr := fun _ => .tuple #[ansV 0 0 [], rv]) (fr1 := fun _ => .tuple #[ansV 0 0 [], refsV (ln.row.flatMap (fun f : Found => f.refs))]) (fun b cs k' hz t => FZ.tupL (.cons (.refl _) (.cons hz .nil)))
        have hG1 : Gs (fun _ => .tuple #[.agg #[.int .i64 0, .int .i64 0, .slice none 0 0], rv]) _ (fun _ => .tuple #[ansV 0 0 [], rv]) _ := Gs.nils (h := (h4.set m (.map ((List.zipWith entry d.lines gs).eraseIdx j) (bs.eraseIdx j) clk)).set (h.n + 1) (.row [.int .i64 0, .int .i64 0, .slice none 0 0] true 0)) fun _ => FZ.tupL (.cons (FZ.aggL (.cons (.refl _) (.cons (.refl _) (.cons (.nil _) .nil)))) (.cons (.refl _) .nil))
        refine w_ret (b_ret (t_ret (ret_give (rs_cell rfl rfl rfl (cells_of (get_same c85) rfl rfl rfl) (rs_tmp rfl rs_nil)) (hG1.trans hG2) ?_)))
        have hM : doM d stamp ⟨3, cid, cn, cref⟩ outs = ⟨0, 0, [], ln.row.flatMap (fun f : Found => f.refs), { d with lines := d.lines.eraseIdx j }⟩ := by unfold doM; simp [hj, hl]
        rw [hM] at hQ
        have hB : But [m] h h8 := ((((hle2.trans hle4).but _).set (.inl (List.mem_singleton.2 rfl)) _).set (.inr (by omega)) _).trans hB8 fun k hk => .inr (by have := hrb k hk; omega)
        have hm8 : h8.get m = some (.map ((List.zipWith entry d.lines gs).eraseIdx j) (bs.eraseIdx j) clk) := hB8.get (get_other (get_same hm4) (by omega)) fun x => by have := hrb m x; omega
        refine hQ h8 _ _ _ hB.1 (R.erase hjl hB hm8) (fun b hb' => ?_) (fun b o e hb' => hB.get e fun x => hb' (by simp at x; subst x; simp [Fp]))
        rcases Fp_mem.1 hb' with rfl | rfl | ⟨i, x, hx, hb'⟩
        · exact .inl (by simp [Fp])
        · exact .inl (by simp [Fp])
        · obtain ⟨k, hk, _⟩ := erase_at hx
          exact .inl (Fp_line hk hb')
  have hk3 : (kind == 3) = false := by simpa using k3
  refine w_cond rfl (fun e => by rw [hk3] at e; cases e) (fun _ => ?_)
  refine w_seq (w_region ?_)
  first | refine xo_val rfl (a_bin rfl rfl (bin_eql _ _ _ _ _)) ⟨⟩ ?_ | refine xo_val rfl rfl ⟨⟩ ?_
  refine xo_val rfl rfl ⟨⟩ ?_
  refine xo_nil (t_norm ?_)
  by_cases k1 : kind = 1
  · subst k1
    refine w_cond rfl (fun _ => ?_) (fun e => by cases e)
    obtain rfl := hov rfl
    refine w_seq (w_region ?_)
    refine xo_val rfl rfl ⟨⟩ ?_
    refine xo_val rfl (a_struct (l := [_, _, _]) rfl rfl rfl rfl) ⟨⟩ ?_
    refine xo_val rfl rfl ⟨⟩ ?_
    first | refine xo_val rfl (a_loads_pp rfl rfl rfl rfl) ⟨⟩ ?_ | refine xo_val rfl (a_loads rfl rfl rfl (cells_of (by repeat' first | assumption | exact AH.get_push_new _ _ | exact AH.get_push_at (by first | (simp only [AH.n_push, AH.n_set]; done) | (simp only [AH.n_push, AH.n_set]; rfl)) | refine AH.get_push_old ?_ _ | apply get_same | refine get_other ?_ (by first | assumption | omega | (simp only [AH.n_push, AH.n_set]; omega) | (dsimp only; omega) | (dsimp only; simp only [AH.n_push, AH.n_set]; omega)) | refine Le.get (by assumption) ?_) rfl rfl rfl)) ⟨⟩ ?_
    refine xo_val rfl rfl ⟨⟩ ?_
    refine xo_call rfl rfl (publish_ok (R.le hle2) (O.ne rfl) O.lost O.len O.big S.o fun h3 gs3 hn3 R3 hf3 hk3 => ⟨⟨⟩, ?_⟩)
    simp only [AH.n_push] at hn3 hf3
    have no8 : h.n + 1 ∉ Fp D m gs := fun hm => by have := R.lt hm; omega
    have c8 := hk3 (h.n + 1) _ (show _ = some (.row [.int .i64 0, .int .i64 0, .slice none 0 0] true 0) from (by repeat' first | assumption | exact AH.get_push_new _ _ | exact AH.get_push_at (by first | (simp only [AH.n_push, AH.n_set]; done) | (simp only [AH.n_push, AH.n_set]; rfl)) | refine AH.get_push_old ?_ _ | apply get_same | refine get_other ?_ (by first | assumption | omega | (simp only [AH.n_push, AH.n_set]; omega) | (dsimp only; omega) | (dsimp only; simp only [AH.n_push, AH.n_set]; omega)) | refine Le.get (by assumption) ?_)) no8
    refine xo_val rfl (a_store rfl rfl rfl rfl rfl (store_of c8 rfl rfl)) ⟨⟩ ?_
    refine xo_val rfl rfl ⟨⟩ ?_
    refine xo_nil (t_norm ?_)
    refine w_ret (b_ret (t_ret (ret_give (rs_cell rfl rfl rfl (cells_of (get_same c8) rfl rfl rfl) (rs_tmp rfl rs_nil)) (Gs.nils (fr1 := fun _ => .tuple #[ansV 0 stamp [], refsV (publishM d outs cref).1]) fun _ => FZ.tupL (.cons (FZ.aggL (.cons (.refl _) (.cons (.refl _) (.cons (.nil _) .nil)))) (.cons (.refl _) .nil))) ?_)))
    have hM : doM d stamp ⟨1, cid, cn, cref⟩ outs = ⟨0, stamp, [], (publishM d outs cref).1, (publishM d outs cref).2⟩ := by unfold doM; simp
    rw [hM] at hQ
    refine hQ _ gs3 bs clk (by simp; omega) (R3.keep fun b hb o e => get_other e fun x => ?_) (fun b hb => (hf3 b hb).imp (fun z => z) (by omega)) (fun b o e hb => get_other (hk3 b o (hle2.get e) hb) (show b ≠ h.n + 1 by have := AH.get_lt e; omega))
    have x' : b = h.n + 1 := x
    rcases hf3 b hb with y | y
    · exact no8 (by rw [← x']; exact y)
    · omega
  have hk1 : (kind == 1) = false := by simpa using k1
  refine w_cond rfl (fun e => by rw [hk1] at e; cases e) (fun _ => ?_)
  refine w_seq (w_region ?_)
  first | refine xo_val rfl (a_bin rfl rfl (bin_eql _ _ _ _ _)) ⟨⟩ ?_ | refine xo_val rfl rfl ⟨⟩ ?_
  refine xo_val rfl rfl ⟨⟩ ?_
  refine xo_nil (t_norm ?_)
  by_cases k4 : kind = 4
  · subst k4
    refine w_cond rfl (fun _ => ?_) (fun e => by cases e)
    refine w_seq (w_region ?_)
    refine xo_val rfl rfl ⟨⟩ ?_
    first | refine xo_val rfl (a_loads_pp rfl rfl rfl rfl) ⟨⟩ ?_ | refine xo_val rfl (a_loads rfl rfl rfl (cells_of (by repeat' first | assumption | exact AH.get_push_new _ _ | exact AH.get_push_at (by first | (simp only [AH.n_push, AH.n_set]; done) | (simp only [AH.n_push, AH.n_set]; rfl)) | refine AH.get_push_old ?_ _ | apply get_same | refine get_other ?_ (by first | assumption | omega | (simp only [AH.n_push, AH.n_set]; omega) | (dsimp only; omega) | (dsimp only; simp only [AH.n_push, AH.n_set]; omega)) | refine Le.get (by assumption) ?_) rfl rfl rfl)) ⟨⟩ ?_
    refine xo_call rfl rfl (poll_ok (R.le hle2) S.row fun h3 gs3 hn3 R3 hf3 hk3 => ⟨⟨⟩, ?_⟩)
    simp only [AH.n_push] at hn3 hf3
    have no8 : h.n + 1 ∉ Fp D m gs := fun hm => by have := R.lt hm; omega
    have c8 := hk3 (h.n + 1) _ (show _ = some (.row [.int .i64 0, .int .i64 0, .slice none 0 0] true 0) from (by repeat' first | assumption | exact AH.get_push_new _ _ | exact AH.get_push_at (by first | (simp only [AH.n_push, AH.n_set]; done) | (simp only [AH.n_push, AH.n_set]; rfl)) | refine AH.get_push_old ?_ _ | apply get_same | refine get_other ?_ (by first | assumption | omega | (simp only [AH.n_push, AH.n_set]; omega) | (dsimp only; omega) | (dsimp only; simp only [AH.n_push, AH.n_set]; omega)) | refine Le.get (by assumption) ?_)) no8
    refine xo_val rfl rfl ⟨⟩ ?_
    refine xo_val rfl rfl ⟨⟩ ?_
    refine xo_val rfl (a_store rfl rfl rfl rfl rfl (store_of c8 rfl rfl)) ⟨⟩ ?_
    refine xo_val rfl rfl ⟨⟩ ?_
    refine xo_nil (t_norm ?_)
    refine w_ret (b_ret (t_ret (ret_of (rs_cell rfl rfl rfl (cells_of (get_same c8) rfl rfl rfl) (rs_tmp rfl rs_nil)) ?_)))
    have hM : doM d stamp ⟨4, cid, cn, cref⟩ outs = ⟨(pollM d cid cn).err, 0, (pollM d cid cn).ms, (pollM d cid cn).refs, (pollM d cid cn).d⟩ := by unfold doM; simp
    rw [hM] at hQ
    refine hQ _ gs3 bs clk (by simp; omega) (R3.keep fun b hb o e => get_other e fun x => ?_) (fun b hb => (hf3 b hb).imp (fun z => z) (by omega)) (fun b o e hb => get_other (hk3 b o (hle2.get e) hb) (show b ≠ h.n + 1 by have := AH.get_lt e; omega))
    have x' : b = h.n + 1 := x
    rcases hf3 b hb with y | y
    · exact no8 (by rw [← x']; exact y)
    · omega
  have hk4 : (kind == 4) = false := by simpa using k4
  refine w_cond rfl (fun e => by rw [hk4] at e; cases e) (fun _ => ?_)
  refine w_seq (w_region ?_)
  first | refine xo_val rfl (a_bin rfl rfl (bin_eql _ _ _ _ _)) ⟨⟩ ?_ | refine xo_val rfl rfl ⟨⟩ ?_
  refine xo_val rfl rfl ⟨⟩ ?_
  refine xo_nil (t_norm ?_)
  by_cases k5 : kind = 5
  · have hk : (kind == 5) = true := by simpa using k5
    refine w_cond rfl (fun _ => ?_) (fun e => by rw [hk] at e; cases e)
    refine w_seq (w_region ?_)
    refine xo_val rfl rfl ⟨⟩ ?_
    refine xo_val rfl (a_struct (l := [_, _, _]) rfl rfl rfl rfl) ⟨⟩ ?_
    refine xo_val rfl (a_store rfl rfl rfl rfl rfl (store_of (by repeat' first | assumption | exact AH.get_push_new _ _ | exact AH.get_push_at (by first | (simp only [AH.n_push, AH.n_set]; done) | (simp only [AH.n_push, AH.n_set]; rfl)) | refine AH.get_push_old ?_ _ | apply get_same | refine get_other ?_ (by first | assumption | omega | (simp only [AH.n_push, AH.n_set]; omega) | (dsimp only; omega) | (dsimp only; simp only [AH.n_push, AH.n_set]; omega)) | refine Le.get (by assumption) ?_) rfl rfl)) ⟨⟩ ?_
    refine xo_val rfl rfl ⟨⟩ ?_
    refine xo_nil (t_norm ?_)
    refine w_ret (b_ret (t_ret (ret_give (rs_cell rfl rfl rfl (cells_of (get_same (by repeat' first | assumption | exact AH.get_push_new _ _ | exact AH.get_push_at (by first | (simp only [AH.n_push, AH.n_set]; done) | (simp only [AH.n_push, AH.n_set]; rfl)) | refine AH.get_push_old ?_ _ | apply get_same | refine get_other ?_ (by first | assumption | omega | (simp only [AH.n_push, AH.n_set]; omega) | (dsimp only; omega) | (dsimp only; simp only [AH.n_push, AH.n_set]; omega)) | refine Le.get (by assumption) ?_)) rfl rfl rfl) (rs_tmp rfl rs_nil)) nil2 ?_)))
    exact fin 0 stamp d (by unfold doM; simp [k1, k2, k3, k4, k5])
  have hk5 : (kind == 5) = false := by simpa using k5
  refine w_cond rfl (fun e => by rw [hk5] at e; cases e) (fun _ => w_skip (b_norm (t_norm ?_)))
  refine w_seq (w_region ?_)
  refine xo_val rfl (a_struct (l := [_, _, _]) rfl rfl rfl rfl) ⟨⟩ ?_
  refine xo_val rfl (a_store rfl rfl rfl rfl rfl (store_of (by repeat' first | assumption | exact AH.get_push_new _ _ | exact AH.get_push_at (by first | (simp only [AH.n_push, AH.n_set]; done) | (simp only [AH.n_push, AH.n_set]; rfl)) | refine AH.get_push_old ?_ _ | apply get_same | refine get_other ?_ (by first | assumption | omega | (simp only [AH.n_push, AH.n_set]; omega) | (dsimp only; omega) | (dsimp only; simp only [AH.n_push, AH.n_set]; omega)) | refine Le.get (by assumption) ?_) rfl rfl)) ⟨⟩ ?_
  refine xo_val rfl rfl ⟨⟩ ?_
  refine xo_nil (t_norm ?_)
  refine w_ret (ret_give (rs_cell rfl rfl rfl (cells_of (get_same (by repeat' first | assumption | exact AH.get_push_new _ _ | exact AH.get_push_at (by first | (simp only [AH.n_push, AH.n_set]; done) | (simp only [AH.n_push, AH.n_set]; rfl)) | refine AH.get_push_old ?_ _ | apply get_same | refine get_other ?_ (by first | assumption | omega | (simp only [AH.n_push, AH.n_set]; omega) | (dsimp only; omega) | (dsimp only; simp only [AH.n_push, AH.n_set]; omega)) | refine Le.get (by assumption) ?_)) rfl rfl rfl) (rs_tmp rfl rs_nil)) nil2 ?_)
  exact fin 1 0 d (by unfold doM; simp [k1, k2, k3, k4, k5])
end Go.AI.Q
