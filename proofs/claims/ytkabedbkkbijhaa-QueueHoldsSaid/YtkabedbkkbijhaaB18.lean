/-
  THE QUEUE'S LAWS: acts: a hit finds its place. (Own work; steps printed by wip/gen/walk.py.)
-/
import Derived.Test.YtkabedbkkbijhaaB17
namespace Go.AI.Q
open Go Go.AI Go.Proofs
attribute [local irreducible] xOps xw
def hc (l : List Hit) : Value := .agg #[hitsV l, .slice none 0 0, .slice none 0 0, .slice none 0 0]
theorem sz_hc (l : List (List Hit)) : sized 4 (l.map hc) := sized_map (f := hc) (fun _ => ⟨rfl, rfl⟩) l
theorem t53 : elemOfSlice tab 53 = some { ud := UD.struct [(0, 3, false), (1, 58, false)], size := 3, bytes := 56, zero := Value.agg { toList := [Value.int IntKind.i64 0, Value.slice none 0 0, Value.slice none 0 0] }, eqok := true } := rfl
theorem insAt_stop {l : List Hit} {id : Int} {a : Nat} (h : a = 0 ∨ ∃ x, l[a - 1]? = some x ∧ ¬ x.id > id) : insAt l id a = a := by
  cases a with
  | zero => rfl
  | succ n =>
    rcases h with h | ⟨x, hx, hn⟩
    · cases h
    · simp only [insAt, Nat.add_sub_cancel] at hx ⊢
      rw [hx]
      simp [hn]
theorem insAt_go {l : List Hit} {id : Int} {n : Nat} {x : Hit} (hx : l[n]? = some x) (h : x.id > id) : insAt l id (n + 1) = insAt l id n := by
  simp only [insAt, hx]
  rw [if_pos h]
def insCode : XC := (XC.region x10_22).seq ((XC.block 3 (((XC.region x10_23).seq (XC.cond (Operand.tmp 116) XC.skip (XC.exit 3))).seq (XC.block 4 (XC.region x10_24))).loop).seq ((XC.region x10_25).seq (XC.region x10_26)))
theorem ins_ok {h : AH} {B P c : Nat} {hs : List (List Hit)} {k : Nat} {l : List Hit} {x : Hit} {fr : Fr} {Q : XQ} (hB : h.get B = some (.row (flat (hs.map hc)) true 4)) (hP : h.get P = some (.row [.int .i64 x.id, setsV x.f.sets, refsV x.f.refs] true 0)) (hne : P ≠ B) (hl : hs[k]? = some l) (hll : l.length ≤ 1000)
    (hlen : hs.length = 3) (f7 : fr 7 = .slice (some ⟨B, 0, none⟩) 3 c) (f9 : fr 9 = .int .i64 k) (f10 : fr 10 = .pointer (some ⟨P, 0, none⟩))
    (hQ : ∀ fr' h' h2, (fr' 1 = fr 1 ∧ fr' 2 = fr 2 ∧ fr' 4 = fr 4 ∧ fr' 7 = fr 7 ∧ fr' 8 = fr 8) → (∀ fr : Fr, Gs fr h' fr h2) → But [B] h h2 → h2.get B = some (.row (flat ((hs.set k (insM l x)).map hc)) true 4) → Q .norm fr' h') : xw tab C Y insCode fr h Q := by
  have hk3 : k < 3 := by have := (List.getElem?_eq_some_iff.1 hl).1; omega
  have hcl : (hs.map hc)[k]? = some (hc l) := map_at hl
  have hcell : (flat (hs.map hc))[((k : Nat) : Int).toNat * 4 + 0]? = some (hitsV l) := by rw [Int.toNat_natCast]; exact flat_cell (sz_hc hs) hcl rfl
  have hfl : (flat (hs.map hc)).length = 12 := by rw [flat_length (sz_hc hs), List.length_map, hlen]
  have hBn := AH.get_lt hB
  have e1 : fr 1 = fr 1 := rfl
  generalize hf1 : fr 1 = v1 at hQ
  generalize hf2 : fr 2 = v2 at hQ
  generalize hf4 : fr 4 = v4 at hQ
  generalize hf8 : fr 8 = v8 at hQ
  rw [f7] at hQ
  rw [← fr_fix f7, ← fr_fix f9, ← fr_fix f10]
  unfold insCode
  refine w_seq (w_region ?_)
  refine xo_val rfl rfl ⟨⟩ ?_
  refine xo_val rfl rfl ⟨⟩ ?_
  refine xo_val rfl (a_ixs rfl rfl rfl rfl rfl (by omega)) ⟨⟩ ?_
  refine xo_val rfl rfl ⟨⟩ ?_
  refine xo_val rfl (a_load_add2 rfl rfl rfl hB hcell) ⟨⟩ ?_
  first | refine xo_val rfl (a_len_map rfl rfl rfl rfl rfl rfl) ⟨⟩ ?_ | refine xo_val rfl (a_len_ps rfl rfl rfl rfl rfl rfl) ⟨⟩ ?_ | refine xo_val rfl rfl ⟨⟩ ?_
  refine xo_val rfl rfl ⟨⟩ ?_
  refine xo_nil (t_norm ?_)
  refine w_seq (w_block ?_)
  refine w_loop (fun N fr h' => ∃ a : Nat, N = a ∧ h' = h ∧ a ≤ l.length ∧ insAt l x.id l.length = insAt l x.id a ∧ fr 1 = v1 ∧ fr 2 = v2 ∧ fr 4 = v4 ∧ fr 8 = v8 ∧ fr 7 = .slice (some ⟨B, 0, none⟩) 3 c ∧ fr 9 = .int .i64 k ∧ fr 10 = .pointer (some ⟨P, 0, none⟩) ∧ fr 11 = .int .i64 a) l.length ?_ ?_
  · exact ⟨l.length, rfl, rfl, Nat.le_refl _, rfl, hf1, hf2, hf4, hf8, rfl, rfl, rfl, rfl⟩
  clear hf1 hf2 hf4 hf8 f7 f9 f10 e1
  rintro N fr h1 ⟨a, rfl, rfl, hal, hins, f1, f2, f4, f8, f7, f9, f10, f11⟩
  rw [← fr_fix f1, ← fr_fix f2, ← fr_fix f4, ← fr_fix f8, ← fr_fix f7, ← fr_fix f9, ← fr_fix f10, ← fr_fix f11]
  -- the end
  have fin : insAt l x.id N = N → ∀ fr : Fr, fr 1 = v1 → fr 2 = v2 → fr 4 = v4 → fr 8 = v8 → fr 7 = .slice (some ⟨B, 0, none⟩) 3 c → fr 9 = .int .i64 k → fr 10 = .pointer (some ⟨P, 0, none⟩) → fr 11 = .int .i64 N → xw tab C Y ((XC.region x10_25).seq (XC.region x10_26)) fr h1 Q := by
    intro hst fr f1 f2 f4 f8 f7 f9 f10 f11
    rw [← fr_fix f1, ← fr_fix f2, ← fr_fix f4, ← fr_fix f8, ← fr_fix f7, ← fr_fix f9, ← fr_fix f10, ← fr_fix f11]
    have hnat : insM l x = l.take N ++ x :: l.drop N := by unfold insM; rw [hins, hst]
    refine w_seq (w_region ?_)
    refine xo_val rfl (a_list (l := []) rfl rfl rfl rfl rfl) ⟨⟩ ?_
    refine xo_val rfl rfl ⟨⟩ ?_
    refine xo_val rfl rfl ⟨⟩ ?_
    refine xo_val rfl (a_ixs rfl rfl rfl rfl rfl (by omega)) ⟨⟩ ?_
    refine xo_val rfl rfl ⟨⟩ ?_
    have hle1 := (Le.refl h1).push (.row ([] : List Value) true 3)
    refine xo_val rfl (a_load_add2 rfl rfl rfl (hle1.get hB) hcell) ⟨⟩ ?_
    refine xo_val rfl rfl ⟨⟩ ?_
    refine xo_val rfl (a_drop_ps rfl rfl rfl rfl rfl rfl (by simp; omega)) ⟨⟩ ?_
    have A0 : Acc (h1.push (.row [] true 3)) 3 (.slice (some ⟨h1.n, 0, none⟩) 0 1) ([] : List Value) := Acc.new (fun v hv => by cases hv) (AH.get_push_new _ _) (.inr rfl)
    have hdm : (l.map hitV).drop ((N : Nat) : Int).toNat = (l.drop N).map hitV := by rw [Int.toNat_natCast, List.map_drop]
    obtain ⟨p, hp, A2, hB2, hbl⟩ := acc_append (T := tab) (t := 53) (xt := 53) (x := PS 3 ((l.map hitV).drop ((N : Nat) : Int).toNat)) A0 t53 rfl (fun _ e => by cases e) rfl (ps_src rfl) (by rw [hdm]; exact sz_hit _) (roomOk_of (by simp; omega) (by simp; omega))
    obtain ⟨rv, h2⟩ := p
    dsimp only at A2 hB2 hbl
    rw [List.nil_append, hdm] at A2
    have hle2 : Le h1 h2 := hB2.le hle1 (fun k hk => by simp [rowBlk] at hk; omega)
    have hrv : ∀ b ∈ rowBlk rv, h1.n ≤ b := fun b hb => (hbl b hb).elim (fun y => by simp [rowBlk] at y; omega) (by simp; omega)
    refine xo_val rfl (a_append rfl rfl rfl rfl rfl hp) ⟨⟩ ?_
    refine xo_val rfl rfl ⟨⟩ ?_
    refine xo_nil (t_norm ?_)
    have hBh2 := hle2.get hB
    have hPh2 := hle2.get hP
    refine w_region ?_
    refine xo_val rfl rfl ⟨⟩ ?_
    refine xo_val rfl rfl ⟨⟩ ?_
    refine xo_val rfl rfl ⟨⟩ ?_
    refine xo_val rfl rfl ⟨⟩ ?_
    refine xo_val rfl (a_ixs rfl rfl rfl rfl rfl (by omega)) ⟨⟩ ?_
    refine xo_val rfl rfl ⟨⟩ ?_
    refine xo_val rfl (a_load_add2 rfl rfl rfl hBh2 hcell) ⟨⟩ ?_
    refine xo_val rfl rfl ⟨⟩ ?_
    refine xo_val rfl rfl ⟨⟩ ?_
    refine xo_val rfl (a_clip_ps rfl rfl rfl rfl rfl rfl rfl (by simp; omega)) ⟨⟩ ?_
    refine xo_val rfl (a_loads (l := [.int .i64 x.id, setsV x.f.sets, refsV x.f.refs]) rfl rfl rfl (cells_of hPh2 rfl rfl rfl)) ⟨⟩ ?_
    refine xo_val rfl rfl ⟨⟩ ?_
    refine xo_val rfl (a_list (l := [_, _, _]) rfl rfl rfl rfl rfl) ⟨?_, ?_, trivial⟩ ?_
    · exact fun _ => a_load_add2 rfl rfl rfl (AH.get_push_old hBh2 _) hcell
    · exact fun _ => a_clip_ps rfl rfl rfl rfl rfl rfl rfl (by simp; omega)
    have hle3 := (Le.refl h2).push (.row [.int .i64 x.id, setsV x.f.sets, refsV x.f.refs] true 3)
    have As : Acc (h2.push (.row [.int .i64 x.id, setsV x.f.sets, refsV x.f.refs] true 3)) 3 (.slice (some ⟨h2.n, 0, none⟩) 1 2) [hitV x] := Acc.new (sz_hit [x]) (AH.get_push_new _ _) (.inr rfl)
    have hpc := psc_append (T := tab) (h := h2.push (.row [.int .i64 x.id, setsV x.f.sets, refsV x.f.refs] true 3)) (t := 53) (xt := 53) (k := 3) (els := (l.map hitV).take ((N : Nat) : Int).toNat) (x := .slice (some ⟨h2.n, 0, none⟩) 1 2) t53 rfl (fun _ e => by cases e) rfl (As.src rfl) (by simp) (roomOk_of (by simp; omega) (by simp; omega))
    refine xo_val rfl (a_append rfl rfl rfl rfl rfl hpc) ⟨⟩ ?_
    have htm : (l.map hitV).take ((N : Nat) : Int).toNat ++ [hitV x] = (l.take N ++ [x]).map hitV := by rw [Int.toNat_natCast, ← List.map_take]; simp
    have hle4 := hle3.push (.row (flat ((l.map hitV).take ((N : Nat) : Int).toNat ++ [hitV x])) true 3)
    have At : Acc ((h2.push (.row [.int .i64 x.id, setsV x.f.sets, refsV x.f.refs] true 3)).push (.row (flat ((l.map hitV).take ((N : Nat) : Int).toNat ++ [hitV x])) true 3)) 3 (.slice (some ⟨h2.n + 1, 0, none⟩) (((l.map hitV).take ((N : Nat) : Int).toNat).length + [hitV x].length) 0) ((l.take N ++ [x]).map hitV) := by
      have := Acc.new (h := (h2.push (.row [.int .i64 x.id, setsV x.f.sets, refsV x.f.refs] true 3)).push (.row (flat ((l.map hitV).take ((N : Nat) : Int).toNat ++ [hitV x])) true 3)) (k := 3) (els := (l.take N ++ [x]).map hitV) (B := h2.n + 1) (c := 0) (sz_hit _) (by rw [htm]; exact AH.get_push_new _ _) (.inl rfl)
      rw [← htm, List.length_append] at this
      rw [← htm]
      exact this
    obtain ⟨p5, hp5, A5, hB5, hbl5⟩ := acc_append (T := tab) (t := 53) (xt := 53) (x := rv) At t53 rfl (fun _ e => by cases e) rfl ((A2.le hle4).src rfl) (sz_hit _) (roomOk_of (by simp; omega) (by simp; omega))
    obtain ⟨nv, h5⟩ := p5
    dsimp only at A5 hB5 hbl5
    rw [← List.map_append] at A5
    have hnm : l.take N ++ [x] ++ l.drop N = insM l x := by rw [hnat]; simp
    rw [hnm] at A5
    refine xo_val rfl (a_append rfl rfl rfl rfl rfl hp5) ⟨⟩ ?_
    refine xo_val rfl (a_ixs rfl rfl rfl rfl rfl (by omega)) ⟨⟩ ?_
    refine xo_val rfl rfl ⟨⟩ ?_
    have hn2 := hle2.1
    have hBh5 := hB5.get (hle4.get hBh2) (by simp [rowBlk]; omega)
    refine xo_val rfl (a_store_add2 rfl rfl rfl rfl A5.one hBh5 (by rw [hfl, Int.toNat_natCast]; show k * 4 + 0 < 12; omega)) ⟨⟩ ?_
    refine xo_nil ?_
    obtain ⟨Bn, cc, rfl, hrow, _⟩ : ∃ Bn cc, nv = .slice (some ⟨Bn, 0, none⟩) ((insM l x).map hitV).length cc ∧ h5.get Bn = some (.row (flat ((insM l x).map hitV)) true 3) ∧ True := by
      rcases A5 with ⟨_, ⟨_, e⟩ | ⟨Bn, cc, e1, e2, _⟩⟩
      · rw [hnat] at e; simp at e
      · exact ⟨Bn, cc, e1, e2, trivial⟩
    have hBnB : h2.n + 1 ≤ Bn := by
      rcases hbl5 Bn (by simp [rowBlk]) with y | y
      · simp [rowBlk] at y; omega
      · simp at y; omega
    have hs6 : putAt (flat (hs.map hc)) (((k : Nat) : Int).toNat * 4 + 0) [hitsV (insM l x)] = flat ((hs.set k (insM l x)).map hc) := by
      rw [Int.toNat_natCast, List.map_set]
      exact flat_set (sz_hc hs) hcl (by decide) rfl
    have g1 := get_other (p := .row (putAt (flat (hs.map hc)) (((k : Nat) : Int).toNat * 4 + 0) [.slice (some ⟨Bn, 0, none⟩) ((insM l x).map hitV).length cc]) true 4) hrow (by omega : Bn ≠ B)
    have g2 := get_same (p := .row (putAt (flat (hs.map hc)) (((k : Nat) : Int).toNat * 4 + 0) [.slice (some ⟨Bn, 0, none⟩) ((insM l x).map hitV).length cc]) true 4) hBh5
    have hz : OFZ Bn (flat ((insM l x).map hitV)) 3 (.row (putAt (flat (hs.map hc)) (((k : Nat) : Int).toNat * 4 + 0) [.slice (some ⟨Bn, 0, none⟩) ((insM l x).map hitV).length cc]) true 4) (.row (putAt (flat (hs.map hc)) (((k : Nat) : Int).toNat * 4 + 0) [hitsV (insM l x)]) true 4) :=
      OFZ.rowL (FZ.rfls.set _ (FZ.flat (sz_hit _)))
    refine hQ _ _ _ ⟨rfl, rfl, rfl, rfl, rfl⟩ (fun fr => Gs.up (k := 3) g1 (fun t => .refl _) g2 (by omega) hz) ?_ ?_
    · have b1 : But [B] h1 h5 := ((hle2.trans hle4).but _).trans hB5 fun k hk => by simp [rowBlk] at hk; right; omega
      exact (((b1.set (.inl (List.mem_singleton.2 rfl)) _).set (.inr (by omega)) _).set (.inl (List.mem_singleton.2 rfl)) _).push _
    · rw [← hs6]
      exact AH.get_push_old (get_same (get_other g2 (by omega))) _
  refine w_seq ?_
  refine w_seq (w_region ?_)
  refine xo_val rfl rfl ⟨⟩ ?_
  refine xo_val rfl (a_bin rfl rfl (bin_gtr _ _ _ _ _)) ⟨⟩ ?_
  cases hap : decide ((N : Int) > 0) with
  | false =>
    refine xo_val rfl rfl ⟨⟩ ?_
    first | refine xo_skip (want_no rfl (by first | rfl | assumption)) ?_ | refine xo_skip rfl ?_ | refine xo_val (want_if rfl (by first | rfl | assumption)) rfl ⟨⟩ ?_
    first | refine xo_skip (want_no rfl (by first | rfl | assumption)) ?_ | refine xo_skip rfl ?_ | refine xo_val (want_if rfl (by first | rfl | assumption)) rfl ⟨⟩ ?_
    first | refine xo_skip (want_no rfl (by first | rfl | assumption)) ?_ | refine xo_skip rfl ?_ | refine xo_val (want_if rfl (by first | rfl | assumption)) (a_ix_mapN rfl rfl rfl rfl rfl rfl (by assumption)) ⟨⟩ ?_ | refine xo_val (want_if rfl (by first | rfl | assumption)) (a_ix_ps rfl rfl rfl rfl rfl rfl (by omega) (by assumption)) ⟨⟩ ?_ | refine xo_val (want_if rfl (by first | rfl | assumption)) (a_ixs rfl rfl rfl rfl rfl (by omega)) ⟨⟩ ?_ | refine xo_val (want_if rfl (by first | rfl | assumption)) (a_ixa rfl rfl rfl rfl rfl (by omega)) ⟨⟩ ?_
    first | refine xo_skip (want_no rfl (by first | rfl | assumption)) ?_ | refine xo_skip rfl ?_ | refine xo_val (want_if rfl (by first | rfl | assumption)) rfl ⟨⟩ ?_
    first | refine xo_skip (want_no rfl (by first | rfl | assumption)) ?_ | refine xo_skip rfl ?_ | refine xo_val (want_if rfl (by first | rfl | assumption)) (a_load_pp rfl rfl rfl rfl) ⟨⟩ ?_ | refine xo_val (want_if rfl (by first | rfl | assumption)) (a_load rfl rfl rfl (cell_of (by repeat' first | assumption | exact AH.get_push_new _ _ | exact AH.get_push_at (by first | (simp only [AH.n_push, AH.n_set]; done) | (simp only [AH.n_push, AH.n_set]; rfl)) | refine AH.get_push_old ?_ _ | apply get_same | refine get_other ?_ (by first | assumption | omega | (simp only [AH.n_push, AH.n_set]; omega) | (dsimp only; omega) | (dsimp only; simp only [AH.n_push, AH.n_set]; omega)) | refine Le.get (by assumption) ?_) rfl rfl)) ⟨⟩ ?_
    first | refine xo_skip (want_no rfl (by first | rfl | assumption)) ?_ | refine xo_skip rfl ?_ | refine xo_val (want_if rfl (by first | rfl | assumption)) rfl ⟨⟩ ?_
    first | refine xo_skip (want_no rfl (by first | rfl | assumption)) ?_ | refine xo_skip rfl ?_ | refine xo_val (want_if rfl (by first | rfl | assumption)) (a_bin rfl rfl (bin_sub64 _ _ _ _ (by omega))) ⟨⟩ ?_
    first | refine xo_skip (want_no rfl (by first | rfl | assumption)) ?_ | refine xo_skip rfl ?_ | refine xo_val (want_if rfl (by first | rfl | assumption)) (a_ix_mapN rfl rfl rfl rfl rfl rfl (by assumption)) ⟨⟩ ?_ | refine xo_val (want_if rfl (by first | rfl | assumption)) (a_ix_ps rfl rfl rfl rfl rfl rfl (by omega) (by assumption)) ⟨⟩ ?_ | refine xo_val (want_if rfl (by first | rfl | assumption)) (a_ixs rfl rfl rfl rfl rfl (by omega)) ⟨⟩ ?_ | refine xo_val (want_if rfl (by first | rfl | assumption)) (a_ixa rfl rfl rfl rfl rfl (by omega)) ⟨⟩ ?_
    first | refine xo_skip (want_no rfl (by first | rfl | assumption)) ?_ | refine xo_skip rfl ?_ | refine xo_val (want_if rfl (by first | rfl | assumption)) rfl ⟨⟩ ?_
    first | refine xo_skip (want_no rfl (by first | rfl | assumption)) ?_ | refine xo_skip rfl ?_ | refine xo_val (want_if rfl (by first | rfl | assumption)) (a_load_pp rfl rfl rfl rfl) ⟨⟩ ?_ | refine xo_val (want_if rfl (by first | rfl | assumption)) (a_load rfl rfl rfl (cell_of (by repeat' first | assumption | exact AH.get_push_new _ _ | exact AH.get_push_at (by first | (simp only [AH.n_push, AH.n_set]; done) | (simp only [AH.n_push, AH.n_set]; rfl)) | refine AH.get_push_old ?_ _ | apply get_same | refine get_other ?_ (by first | assumption | omega | (simp only [AH.n_push, AH.n_set]; omega) | (dsimp only; omega) | (dsimp only; simp only [AH.n_push, AH.n_set]; omega)) | refine Le.get (by assumption) ?_) rfl rfl)) ⟨⟩ ?_
    first | refine xo_skip (want_no rfl (by first | rfl | assumption)) ?_ | refine xo_skip rfl ?_ | refine xo_val (want_if rfl (by first | rfl | assumption)) rfl ⟨⟩ ?_
    first | refine xo_skip (want_no rfl (by first | rfl | assumption)) ?_ | refine xo_skip rfl ?_ | refine xo_val (want_if rfl (by first | rfl | assumption)) (a_load_pp rfl rfl rfl rfl) ⟨⟩ ?_ | refine xo_val (want_if rfl (by first | rfl | assumption)) (a_load rfl rfl rfl (cell_of (by repeat' first | assumption | exact AH.get_push_new _ _ | exact AH.get_push_at (by first | (simp only [AH.n_push, AH.n_set]; done) | (simp only [AH.n_push, AH.n_set]; rfl)) | refine AH.get_push_old ?_ _ | apply get_same | refine get_other ?_ (by first | assumption | omega | (simp only [AH.n_push, AH.n_set]; omega) | (dsimp only; omega) | (dsimp only; simp only [AH.n_push, AH.n_set]; omega)) | refine Le.get (by assumption) ?_) rfl rfl)) ⟨⟩ ?_
    first | refine xo_skip (want_no rfl (by first | rfl | assumption)) ?_ | refine xo_skip rfl ?_ | refine xo_val (want_if rfl (by first | rfl | assumption)) (a_bin rfl rfl (bin_gtr _ _ _ _ _)) ⟨⟩ ?_
    first | refine xo_val rfl (a_pick_t rfl (by first | rfl | assumption) rfl) ⟨⟩ ?_ | refine xo_val rfl (a_pick_f rfl (by first | rfl | assumption) rfl) ⟨⟩ ?_
    refine xo_nil (t_norm (w_cond rfl (fun e => by cases e) (fun _ => w_exit (t_exit (b_here (id := 3) (t_norm ?_))))))
    exact fin (insAt_stop (.inl (by have := of_decide_eq_false hap; omega))) _ rfl rfl rfl rfl rfl rfl rfl rfl
  | true =>
    have hap' := of_decide_eq_true hap
    obtain ⟨y, hy⟩ : ∃ y, l[N - 1]? = some y := ⟨_, List.getElem?_eq_getElem (by omega)⟩
    have hyi : l[((N : Int) - 1).toNat]? = some y := by rw [show ((N : Int) - 1).toNat = N - 1 by omega]; exact hy
    refine xo_val rfl rfl ⟨⟩ ?_
    first | refine xo_skip (want_no rfl (by first | rfl | assumption)) ?_ | refine xo_skip rfl ?_ | refine xo_val (want_if rfl (by first | rfl | assumption)) rfl ⟨⟩ ?_
    first | refine xo_skip (want_no rfl (by first | rfl | assumption)) ?_ | refine xo_skip rfl ?_ | refine xo_val (want_if rfl (by first | rfl | assumption)) rfl ⟨⟩ ?_
    refine xo_val (want_if rfl rfl) (a_ixs rfl rfl rfl rfl rfl (by omega)) ⟨⟩ ?_
    first | refine xo_skip (want_no rfl (by first | rfl | assumption)) ?_ | refine xo_skip rfl ?_ | refine xo_val (want_if rfl (by first | rfl | assumption)) rfl ⟨⟩ ?_
    refine xo_val (want_if rfl rfl) (a_load_add2 rfl rfl rfl hB hcell) ⟨⟩ ?_
    first | refine xo_skip (want_no rfl (by first | rfl | assumption)) ?_ | refine xo_skip rfl ?_ | refine xo_val (want_if rfl (by first | rfl | assumption)) rfl ⟨⟩ ?_
    first | refine xo_skip (want_no rfl (by first | rfl | assumption)) ?_ | refine xo_skip rfl ?_ | refine xo_val (want_if rfl (by first | rfl | assumption)) (a_bin rfl rfl (bin_sub64 _ _ _ _ (by omega))) ⟨⟩ ?_
    refine xo_val (want_if rfl rfl) (a_ix_map rfl rfl rfl rfl rfl rfl (by omega) hyi) ⟨⟩ ?_
    first | refine xo_skip (want_no rfl (by first | rfl | assumption)) ?_ | refine xo_skip rfl ?_ | refine xo_val (want_if rfl (by first | rfl | assumption)) rfl ⟨⟩ ?_
    first | refine xo_skip (want_no rfl (by first | rfl | assumption)) ?_ | refine xo_skip rfl ?_ | refine xo_val (want_if rfl (by first | rfl | assumption)) (a_load_pp rfl rfl rfl rfl) ⟨⟩ ?_ | refine xo_val (want_if rfl (by first | rfl | assumption)) (a_load rfl rfl rfl (cell_of (by repeat' first | assumption | exact AH.get_push_new _ _ | exact AH.get_push_at (by first | (simp only [AH.n_push, AH.n_set]; done) | (simp only [AH.n_push, AH.n_set]; rfl)) | refine AH.get_push_old ?_ _ | apply get_same | refine get_other ?_ (by first | assumption | omega | (simp only [AH.n_push, AH.n_set]; omega) | (dsimp only; omega) | (dsimp only; simp only [AH.n_push, AH.n_set]; omega)) | refine Le.get (by assumption) ?_) rfl rfl)) ⟨⟩ ?_
    first | refine xo_skip (want_no rfl (by first | rfl | assumption)) ?_ | refine xo_skip rfl ?_ | refine xo_val (want_if rfl (by first | rfl | assumption)) rfl ⟨⟩ ?_
    first | refine xo_skip (want_no rfl (by first | rfl | assumption)) ?_ | refine xo_skip rfl ?_ | refine xo_val (want_if rfl (by first | rfl | assumption)) (a_load_pp rfl rfl rfl rfl) ⟨⟩ ?_ | refine xo_val (want_if rfl (by first | rfl | assumption)) (a_load rfl rfl rfl (cell_of (by repeat' first | assumption | exact AH.get_push_new _ _ | exact AH.get_push_at (by first | (simp only [AH.n_push, AH.n_set]; done) | (simp only [AH.n_push, AH.n_set]; rfl)) | refine AH.get_push_old ?_ _ | apply get_same | refine get_other ?_ (by first | assumption | omega | (simp only [AH.n_push, AH.n_set]; omega) | (dsimp only; omega) | (dsimp only; simp only [AH.n_push, AH.n_set]; omega)) | refine Le.get (by assumption) ?_) rfl rfl)) ⟨⟩ ?_
    first | refine xo_skip (want_no rfl (by first | rfl | assumption)) ?_ | refine xo_skip rfl ?_ | refine xo_val (want_if rfl (by first | rfl | assumption)) (a_bin rfl rfl (bin_gtr _ _ _ _ _)) ⟨⟩ ?_
    by_cases hgt : y.id > x.id
    · have hd : decide (y.id > x.id) = true := decide_eq_true hgt
      first | refine xo_val rfl (a_pick_t rfl (by first | rfl | assumption) rfl) ⟨⟩ ?_ | refine xo_val rfl (a_pick_f rfl (by first | rfl | assumption) rfl) ⟨⟩ ?_
      refine xo_nil (t_norm (w_cond rfl (fun _ => w_skip (t_norm ?_)) (fun e => by rw [hd] at e; cases e)))
      refine w_block (w_region ?_)
      refine xo_val rfl rfl ⟨⟩ ?_
      refine xo_val rfl (a_bin rfl rfl (bin_sub64 _ _ _ _ (by omega))) ⟨⟩ ?_
      refine xo_val rfl rfl ⟨⟩ ?_
      refine xo_nil ?_
      refine ⟨N - 1, by omega, N - 1, rfl, rfl, by omega, ?_, rfl, rfl, rfl, rfl, rfl, rfl, rfl, ?_⟩
      · have := insAt_go hy hgt
        rw [Nat.sub_add_cancel (by omega)] at this
        rw [hins, this]
      · show Value.int .i64 ((N : Int) - 1) = _
        rw [show ((N : Int) - 1) = ((N - 1 : Nat) : Int) by omega]
    · have hd : decide (y.id > x.id) = false := decide_eq_false hgt
      first | refine xo_val rfl (a_pick_t rfl (by first | rfl | assumption) rfl) ⟨⟩ ?_ | refine xo_val rfl (a_pick_f rfl (by first | rfl | assumption) rfl) ⟨⟩ ?_
      refine xo_nil (t_norm (w_cond rfl (fun e => by rw [hd] at e; cases e) (fun _ => w_exit (t_exit (b_here (id := 3) (t_norm ?_))))))
      exact fin (insAt_stop (.inr ⟨y, hy, hgt⟩)) _ rfl rfl rfl rfl rfl rfl rfl rfl
end Go.AI.Q
