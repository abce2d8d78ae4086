/-
  THE QUEUE'S LAWS: acts: one hit. (Own work; steps printed by wip/gen/walk.py.)
-/
import Derived.Test.YtkabedbkkbijhaaB18
namespace Go.AI.Q
open Go Go.AI Go.Proofs
attribute [local irreducible] xOps xw
theorem t56 : elemOfSlice tab 56 = some { ud := UD.slice 3, size := 1, bytes := 24, zero := Value.slice none 0 0, eqok := true } := rfl
def hitCode : XC := XC.block 2 ((XC.region x10_17).seq ((XC.region x10_18).seq (((XC.region x10_19).seq (XC.cond (Operand.tmp 76) ((XC.region x10_20).seq (XC.region x10_21)) XC.skip)).seq insCode)))
theorem act_hit {h : AH} {B A c : Nat} {hs : List (List Hit)} {s : ActM} {stamp : Int} {i : Nat} {x : Int} {l : List Hit} {v4 : Value} {fr : Fr} {Q : XQ} (hB : h.get B = some (.row (flat (hs.map hc)) true 4)) (hA : h.get A = some (.row (actV s).cells.toList true 0)) (hAB : A ≠ B)
    (hl : hs[slotOf s i]? = some l) (hll : l.length ≤ 1000) (hlen : hs.length = 3) (hx : s.hits[i]? = some x) (hi : i < 6) (hst : 0 ≤ stamp ∧ stamp ≤ 1000)
    (f1 : fr 1 = .int .i64 stamp) (f2 : fr 2 = .pointer (some ⟨A, 0, none⟩)) (f4 : fr 4 = v4) (f7 : fr 7 = .slice (some ⟨B, 0, none⟩) 3 c) (f8 : fr 8 = .int .i64 i)
    (hQ : ∀ fr' h' h2, (fr' 1 = .int .i64 stamp ∧ fr' 2 = .pointer (some ⟨A, 0, none⟩) ∧ fr' 4 = v4 ∧ fr' 7 = .slice (some ⟨B, 0, none⟩) 3 c ∧ fr' 8 = .int .i64 i) → (∀ fr : Fr, Gs fr h' fr h2) → But [B] h h2 → h2.get B = some (.row (flat ((hs.set (slotOf s i) (insM l (hitOf stamp i x))).map hc)) true 4) → Q .norm fr' h') : xw tab C Y hitCode fr h Q := by
  rw [← fr_fix f1, ← fr_fix f2, ← fr_fix f4, ← fr_fix f7, ← fr_fix f8]
  have hAn := AH.get_lt hA
  have hBn := AH.get_lt hB
  unfold hitCode
  refine w_block ?_
  refine w_seq (w_region ?_)
  refine xo_val rfl rfl ⟨⟩ ?_
  first | refine xo_val rfl (a_load_pp rfl rfl rfl rfl) ⟨⟩ ?_ | refine xo_val rfl (a_load rfl rfl rfl (cell_of (by repeat' first | assumption | exact AH.get_push_new _ _ | exact AH.get_push_at (by first | (simp only [AH.n_push, AH.n_set]; done) | (simp only [AH.n_push, AH.n_set]; rfl)) | refine AH.get_push_old ?_ _ | apply get_same | refine get_other ?_ (by first | assumption | omega | (simp only [AH.n_push, AH.n_set]; omega) | (dsimp only; omega) | (dsimp only; simp only [AH.n_push, AH.n_set]; omega)) | refine Le.get (by assumption) ?_) rfl rfl)) ⟨⟩ ?_
  refine xo_val rfl rfl ⟨⟩ ?_
  refine xo_val rfl (a_bin rfl rfl (bin_add _ _ _ _ _)) ⟨⟩ ?_
  refine xo_call rfl rfl (rest_ok (by decide) (by decide) ⟨⟨⟩, ?_⟩)
  have hslot : restZ (IntKind.i64.wrap (s.shard + i)) 3 = ((slotOf s i : Nat) : Int) := by
    have := restZ_lt (IntKind.i64.wrap (s.shard + i)) 3 (by decide)
    unfold slotOf; omega
  rw [hslot]
  refine xo_val rfl rfl ⟨⟩ ?_
  refine xo_nil (t_norm ?_)
  refine w_seq (w_region ?_)
  refine xo_val rfl rfl ⟨⟩ ?_
  first | refine xo_val rfl (a_load_pp rfl rfl rfl rfl) ⟨⟩ ?_ | refine xo_val rfl (a_load rfl rfl rfl (cell_of (by repeat' first | assumption | exact AH.get_push_new _ _ | exact AH.get_push_at (by first | (simp only [AH.n_push, AH.n_set]; done) | (simp only [AH.n_push, AH.n_set]; rfl)) | refine AH.get_push_old ?_ _ | apply get_same | refine get_other ?_ (by first | assumption | omega | (simp only [AH.n_push, AH.n_set]; omega) | (dsimp only; omega) | (dsimp only; simp only [AH.n_push, AH.n_set]; omega)) | refine Le.get (by assumption) ?_) rfl rfl)) ⟨⟩ ?_
  refine xo_val rfl rfl ⟨⟩ ?_
  first | refine xo_val rfl (a_ix_mapN rfl rfl rfl rfl rfl rfl (by assumption)) ⟨⟩ ?_ | refine xo_val rfl (a_ix_ps rfl rfl rfl rfl rfl rfl (by omega) (by assumption)) ⟨⟩ ?_ | refine xo_val rfl (a_ixs rfl rfl rfl rfl rfl (by omega)) ⟨⟩ ?_ | refine xo_val rfl (a_ixa rfl rfl rfl rfl rfl (by omega)) ⟨⟩ ?_
  first | refine xo_val rfl (a_load_pp rfl rfl rfl rfl) ⟨⟩ ?_ | refine xo_val rfl (a_load rfl rfl rfl (cell_of (by repeat' first | assumption | exact AH.get_push_new _ _ | exact AH.get_push_at (by first | (simp only [AH.n_push, AH.n_set]; done) | (simp only [AH.n_push, AH.n_set]; rfl)) | refine AH.get_push_old ?_ _ | apply get_same | refine get_other ?_ (by first | assumption | omega | (simp only [AH.n_push, AH.n_set]; omega) | (dsimp only; omega) | (dsimp only; simp only [AH.n_push, AH.n_set]; omega)) | refine Le.get (by assumption) ?_) rfl rfl)) ⟨⟩ ?_
  refine xo_call rfl rfl (rest_ok (by decide) (by decide) ⟨⟨⟩, ?_⟩)
  refine xo_val rfl rfl ⟨⟩ ?_
  refine xo_val rfl (a_bin rfl rfl (bin_mul64 _ _ _ _ (by omega))) ⟨⟩ ?_
  refine xo_val rfl rfl ⟨⟩ ?_
  refine xo_val rfl (a_bin rfl rfl (bin_add64 _ _ _ _ (by omega))) ⟨⟩ ?_
  refine xo_call rfl rfl (hit_rows fun h3 b2 b3 hle3 hb2 hb3 hbne r2 r3 => ⟨⟨⟩, ?_⟩)
  have hb2n := AH.get_lt r2
  have hb3n := AH.get_lt r3
  have hn3 := hle3.1
  refine xo_val rfl (a_alloc rfl) ⟨⟩ ?_
  refine xo_val rfl (a_store rfl rfl rfl rfl rfl (store_of (by repeat' first | assumption | exact AH.get_push_new _ _ | exact AH.get_push_at (by first | (simp only [AH.n_push, AH.n_set]; done) | (simp only [AH.n_push, AH.n_set]; rfl)) | refine AH.get_push_old ?_ _ | apply get_same | refine get_other ?_ (by first | assumption | omega | (simp only [AH.n_push, AH.n_set]; omega) | (dsimp only; omega) | (dsimp only; simp only [AH.n_push, AH.n_set]; omega)) | refine Le.get (by assumption) ?_) rfl rfl)) ⟨⟩ ?_
  refine xo_nil (t_norm ?_)
  have hle4 := (hle3.push (.row (Value.agg #[.int .i64 0, .slice none 0 0, .slice none 0 0]).cells.toList true 0)).set (B := h3.n) (by omega) (.row [.int .i64 (restZ x 12), .slice (some ⟨b2, 0, none⟩) 1 2, .slice (some ⟨b3, 0, none⟩) 1 2] true 0)
  have r2' : ((h3.push (.row (Value.agg #[.int .i64 0, .slice none 0 0, .slice none 0 0]).cells.toList true 0)).set h3.n (.row [.int .i64 (restZ x 12), .slice (some ⟨b2, 0, none⟩) 1 2, .slice (some ⟨b3, 0, none⟩) 1 2] true 0)).get b2 = _ := get_other (AH.get_push_old r2 _) (by omega)
  have r3' : ((h3.push (.row (Value.agg #[.int .i64 0, .slice none 0 0, .slice none 0 0]).cells.toList true 0)).set h3.n (.row [.int .i64 (restZ x 12), .slice (some ⟨b2, 0, none⟩) 1 2, .slice (some ⟨b3, 0, none⟩) 1 2] true 0)).get b3 = _ := get_other (AH.get_push_old r3 _) (by omega)
  have rp' := get_same (p := .row [.int .i64 (restZ x 12), .slice (some ⟨b2, 0, none⟩) 1 2, .slice (some ⟨b3, 0, none⟩) 1 2] true 0) (AH.get_push_new h3 (.row (Value.agg #[.int .i64 0, .slice none 0 0, .slice none 0 0]).cells.toList true 0))
  have hn4 : ((h3.push (.row (Value.agg #[.int .i64 0, .slice none 0 0, .slice none 0 0]).cells.toList true 0)).set h3.n (.row [.int .i64 (restZ x 12), .slice (some ⟨b2, 0, none⟩) 1 2, .slice (some ⟨b3, 0, none⟩) 1 2] true 0)).n = h3.n + 1 := by simp
  generalize hH : ((h3.push (.row (Value.agg #[.int .i64 0, .slice none 0 0, .slice none 0 0]).cells.toList true 0)).set h3.n (.row [.int .i64 (restZ x 12), .slice (some ⟨b2, 0, none⟩) 1 2, .slice (some ⟨b3, 0, none⟩) 1 2] true 0)) = h4 at hle4 r2' r3' rp' hn4
  suffices key : ∀ fr : Fr, fr 1 = .int .i64 stamp → fr 2 = .pointer (some ⟨A, 0, none⟩) → fr 4 = v4 → fr 7 = .slice (some ⟨B, 0, none⟩) 3 c → fr 8 = .int .i64 i → fr 9 = .int .i64 ((slotOf s i : Nat) : Int) → fr 10 = .pointer (some ⟨h3.n, 0, none⟩) →
      xw tab C Y (((XC.region x10_19).seq (XC.cond (Operand.tmp 76) ((XC.region x10_20).seq (XC.region x10_21)) XC.skip)).seq insCode) fr h4 (blockQ 2 Q) by
    show xw tab C Y _ _ ((h3.push (.row (Value.agg #[.int .i64 0, .slice none 0 0, .slice none 0 0]).cells.toList true 0)).set h3.n (.row [.int .i64 (restZ x 12), .slice (some ⟨b2, 0, none⟩) 1 2, .slice (some ⟨b3, 0, none⟩) 1 2] true 0)) _
    rw [hH]
    exact key _ rfl rfl rfl rfl rfl rfl rfl
  clear hH
  intro fr f1 f2 f4 f7 f8 f9 f10
  rw [← fr_fix f1, ← fr_fix f2, ← fr_fix f4, ← fr_fix f7, ← fr_fix f8, ← fr_fix f9, ← fr_fix f10]
  refine w_seq ?_
  refine w_seq (w_region ?_)
  refine xo_val rfl rfl ⟨⟩ ?_
  refine xo_val rfl (a_bin rfl rfl (bin_and1 i hi)) ⟨⟩ ?_
  first | refine xo_val rfl (a_bin rfl rfl (bin_eql _ _ _ _ _)) ⟨⟩ ?_ | refine xo_val rfl rfl ⟨⟩ ?_
  refine xo_nil (t_norm ?_)
  by_cases hodd : i % 2 = 1
  · have hd : (((i % 2 : Nat) : Int) == 1) = true := by simp [hodd]
    have hM : hitOf stamp i x = ⟨restZ x 12, ⟨[[10 * stamp + i], [1]], [⟨10 * stamp + i, 0⟩, ⟨1, stamp⟩]⟩⟩ := by unfold hitOf; rw [if_pos hodd]
    refine w_cond rfl (fun _ => ?_) (fun e => by rw [hd] at e; cases e)
    refine w_seq (w_region ?_)
    refine xo_val rfl rfl ⟨⟩ ?_
    refine xo_val rfl rfl ⟨⟩ ?_
    refine xo_val rfl (a_load_add2 rfl rfl rfl rp' rfl) ⟨⟩ ?_
    refine xo_val rfl (a_list (l := [_]) rfl rfl rfl rfl rfl) ⟨⟩ ?_
    refine xo_val rfl (a_list (l := [_]) rfl rfl rfl rfl rfl) ⟨⟩ ?_
    have hle5 := ((Le.refl h4).push (.row [.int .i64 1] true 1)).push (.row [.slice (some ⟨h4.n, 0, none⟩) 1 2] true 1)
    have s1 : sized 1 [Value.slice (some ⟨h4.n, 0, none⟩) 1 2] := fun v hv => by simp at hv; subst hv; exact ⟨rfl, rfl⟩
    have Aq : Acc ((h4.push (.row [.int .i64 1] true 1)).push (.row [.slice (some ⟨h4.n, 0, none⟩) 1 2] true 1)) 1 (.slice (some ⟨h4.n + 1, 0, none⟩) 1 2) [.slice (some ⟨h4.n, 0, none⟩) 1 2] := Acc.new s1 (AH.get_push_new _ _) (.inr rfl)
    have Ab : Acc h4 1 (.slice (some ⟨b2, 0, none⟩) 1 2) [intsV [10 * stamp + i]] := Acc.new (sz_ints [[10 * stamp + i]]) r2' (.inr rfl)
    obtain ⟨p, hp, A5, hB5, hbl5⟩ := acc_append (T := tab) (t := 56) (xt := 56) (x := .slice (some ⟨h4.n + 1, 0, none⟩) 1 2) (Ab.le hle5) t56 rfl (fun _ e => by cases e) rfl (Aq.src rfl) s1 (roomOk_of (by simp) (by simp))
    obtain ⟨sv, h5⟩ := p
    dsimp only at A5 hB5 hbl5
    simp only [AH.n_push, rowBlk, List.mem_singleton] at hbl5
    have hn5 := hB5.1
    simp only [AH.n_push] at hn5
    refine xo_val rfl (a_append rfl rfl rfl rfl rfl hp) ⟨⟩ ?_
    refine xo_val rfl rfl ⟨⟩ ?_
    refine xo_val rfl rfl ⟨⟩ ?_
    have rp5 := hB5.get (hle5.get rp') (by simp [rowBlk]; omega)
    refine xo_val rfl (a_store_add2 rfl rfl rfl rfl A5.one rp5 (by show 1 < 3; omega)) ⟨⟩ ?_
    refine xo_nil (t_norm ?_)
    have rp6 := get_same (p := .row [.int .i64 (restZ x 12), sv, .slice (some ⟨b3, 0, none⟩) 1 2] true 0) rp5
    have r36 := get_other (p := .row [.int .i64 (restZ x 12), sv, .slice (some ⟨b3, 0, none⟩) 1 2] true 0) (hB5.get (hle5.get r3') (by simp [rowBlk]; omega)) (show b3 ≠ h3.n by omega)
    refine w_region ?_
    refine xo_val rfl rfl ⟨⟩ ?_
    refine xo_val rfl rfl ⟨⟩ ?_
    refine xo_val rfl (a_load_add2 rfl rfl rfl rp6 rfl) ⟨⟩ ?_
    refine xo_val rfl rfl ⟨⟩ ?_
    refine xo_val rfl (a_struct (l := [_, _]) rfl rfl rfl rfl) ⟨⟩ ?_
    refine xo_val rfl (a_list (l := [_, _]) rfl rfl rfl rfl rfl) ⟨⟩ ?_
    have hle7 := (Le.refl (h5.set h3.n (.row [.int .i64 (restZ x 12), sv, .slice (some ⟨b3, 0, none⟩) 1 2] true 0))).push (.row [.int .i64 1, .int .i64 stamp] true 2)
    have Ar : Acc ((h5.set h3.n (.row [.int .i64 (restZ x 12), sv, .slice (some ⟨b3, 0, none⟩) 1 2] true 0)).push (.row [.int .i64 1, .int .i64 stamp] true 2)) 2 (.slice (some ⟨(h5.set h3.n (.row [.int .i64 (restZ x 12), sv, .slice (some ⟨b3, 0, none⟩) 1 2] true 0)).n, 0, none⟩) 1 2) [refV ⟨1, stamp⟩] := Acc.new (sz_ref [⟨1, stamp⟩]) (AH.get_push_new _ _) (.inr rfl)
    have A3 : Acc (h5.set h3.n (.row [.int .i64 (restZ x 12), sv, .slice (some ⟨b3, 0, none⟩) 1 2] true 0)) 2 (.slice (some ⟨b3, 0, none⟩) 1 2) [refV ⟨10 * stamp + i, 0⟩] := Acc.new (sz_ref [⟨10 * stamp + i, 0⟩]) r36 (.inr rfl)
    obtain ⟨p7, hp7, A7, hB7, hbl7⟩ := acc_append (T := tab) (t := 30) (xt := 30) (A3.le hle7) t30 rfl (fun _ e => by cases e) rfl (Ar.src rfl) (sz_ref [⟨1, stamp⟩]) (roomOk_of (by simp) (by simp))
    obtain ⟨rv, h7⟩ := p7
    dsimp only at A7 hB7 hbl7
    simp only [AH.n_push, AH.n_set, rowBlk, List.mem_singleton] at hbl7
    have hn7 := hB7.1
    simp only [AH.n_push, AH.n_set] at hn7
    refine xo_val rfl (a_append rfl rfl rfl rfl rfl hp7) ⟨⟩ ?_
    refine xo_val rfl rfl ⟨⟩ ?_
    refine xo_val rfl rfl ⟨⟩ ?_
    have rp7 := hB7.get (hle7.get rp6) (by simp [rowBlk]; omega)
    refine xo_val rfl (a_store_add2 rfl rfl rfl rfl A7.one rp7 (by show 2 < 3; omega)) ⟨⟩ ?_
    refine xo_nil (t_norm ?_)
    -- where all lies
    obtain ⟨Bs, cs, rfl, rs5⟩ : ∃ Bs cs, sv = .slice (some ⟨Bs, 0, none⟩) 2 cs ∧ h5.get Bs = some (.row [intsV [10 * stamp + i], .slice (some ⟨h4.n, 0, none⟩) 1 2] true 1) := by
      rcases A5 with ⟨_, ⟨_, e⟩ | ⟨Bs, cs, e1, e2, _⟩⟩
      · cases e
      · exact ⟨Bs, cs, e1, e2⟩
    obtain ⟨Br, cr, rfl, rr7⟩ : ∃ Br cr, rv = .slice (some ⟨Br, 0, none⟩) 2 cr ∧ h7.get Br = some (.row [.int .i64 (10 * stamp + i), .int .i64 0, .int .i64 1, .int .i64 stamp] true 2) := by
      rcases A7 with ⟨_, ⟨_, e⟩ | ⟨Bs, cs, e1, e2, _⟩⟩
      · cases e
      · exact ⟨Bs, cs, e1, e2⟩
    have hBs := hbl5 Bs (by simp [rowBlk])
    have hBr := hbl7 Br (by simp [rowBlk])
    have hBsn := AH.get_lt rs5
    have rq7 : h7.get h4.n = some (.row [.int .i64 1] true 1) := hB7.get (hle7.get (get_other (hB5.get (AH.get_push_old (AH.get_push_new _ _) _) (by simp [rowBlk]; omega)) (show h4.n ≠ h3.n by omega))) (by simp [rowBlk]; omega)
    have rs7 : h7.get Bs = some (.row [intsV [10 * stamp + i], .slice (some ⟨h4.n, 0, none⟩) 1 2] true 1) := hB7.get (hle7.get (get_other rs5 (show Bs ≠ h3.n by omega))) (by simp [rowBlk]; omega)
    have rp8 := get_same (p := .row [.int .i64 (restZ x 12), .slice (some ⟨Bs, 0, none⟩) 2 cs, .slice (some ⟨Br, 0, none⟩) 2 cr] true 0) rp7
    have rq8 := get_other (p := .row [.int .i64 (restZ x 12), .slice (some ⟨Bs, 0, none⟩) 2 cs, .slice (some ⟨Br, 0, none⟩) 2 cr] true 0) rq7 (show h4.n ≠ h3.n by omega)
    have rs8 := get_other (p := .row [.int .i64 (restZ x 12), .slice (some ⟨Bs, 0, none⟩) 2 cs, .slice (some ⟨Br, 0, none⟩) 2 cr] true 0) rs7 (show Bs ≠ h3.n by omega)
    have rr8 := get_other (p := .row [.int .i64 (restZ x 12), .slice (some ⟨Bs, 0, none⟩) 2 cs, .slice (some ⟨Br, 0, none⟩) 2 cr] true 0) rr7 (show Br ≠ h3.n by omega)
    have hleF : Le h (h7.set h3.n (.row [.int .i64 (restZ x 12), .slice (some ⟨Bs, 0, none⟩) 2 cs, .slice (some ⟨Br, 0, none⟩) 2 cr] true 0)) := by
      have k5 : Le h h5 := hB5.le (hle4.trans hle5) (fun k hk => by simp [rowBlk] at hk; omega)
      have k6 := (k5.set (B := h3.n) (by omega) (.row [.int .i64 (restZ x 12), .slice (some ⟨Bs, 0, none⟩) 2 cs, .slice (some ⟨b3, 0, none⟩) 1 2] true 0)).trans hle7
      exact (hB7.le k6 (fun k hk => by simp [rowBlk] at hk; omega)).set (by omega) _
    show xw tab C Y _ _ (h7.set h3.n (.row [.int .i64 (restZ x 12), .slice (some ⟨Bs, 0, none⟩) 2 cs, .slice (some ⟨Br, 0, none⟩) 2 cr] true 0)) _
    generalize h7.set h3.n (.row [.int .i64 (restZ x 12), .slice (some ⟨Bs, 0, none⟩) 2 cs, .slice (some ⟨Br, 0, none⟩) 2 cr] true 0) = h8 at rp8 rq8 rs8 rr8 hleF ⊢
    have hneq : h4.n ≠ Bs ∧ h4.n ≠ Br ∧ Bs ≠ Br ∧ Bs ≠ h3.n ∧ Br ≠ h3.n ∧ h4.n ≠ h3.n := by omega
    obtain ⟨n1, n2, n3, n4, n5, n6⟩ := hneq
    have z1 : OFZ h4.n (flat [intV 1]) 1 (.row [intsV [10 * stamp + i], .slice (some ⟨h4.n, 0, none⟩) 1 2] true 1) (.row [intsV [10 * stamp + i], intsV [1]] true 1) := OFZ.rowL (.cons (.refl _) (.cons (FZ.flat (els := [intV 1]) (sz_int [1])) .nil))
    have z2 : OFZ Bs (flat [intsV [10 * stamp + i], intsV [1]]) 1 (.row [.int .i64 (restZ x 12), .slice (some ⟨Bs, 0, none⟩) 2 cs, .slice (some ⟨Br, 0, none⟩) 2 cr] true 0) (.row [.int .i64 (restZ x 12), setsV [[10 * stamp + i], [1]], .slice (some ⟨Br, 0, none⟩) 2 cr] true 0) :=
      OFZ.rowL (.cons (.refl _) (.cons (FZ.flat (els := [intsV [10 * stamp + i], intsV [1]]) (sz_ints [[10 * stamp + i], [1]])) (.cons (.refl _) .nil)))
    have z3 : OFZ Br (flat [refV ⟨10 * stamp + i, 0⟩, refV ⟨1, stamp⟩]) 2 (.row [.int .i64 (restZ x 12), setsV [[10 * stamp + i], [1]], .slice (some ⟨Br, 0, none⟩) 2 cr] true 0) (.row [.int .i64 (restZ x 12), setsV [[10 * stamp + i], [1]], refsV [⟨10 * stamp + i, 0⟩, ⟨1, stamp⟩]] true 0) :=
      OFZ.rowL (.cons (.refl _) (.cons (.refl _) (.cons (FZ.flat (els := [refV ⟨10 * stamp + i, 0⟩, refV ⟨1, stamp⟩]) (sz_ref [⟨10 * stamp + i, 0⟩, ⟨1, stamp⟩])) .nil)))
    -- the first
    have G1 := fun fr => Gs.up (fr := fr) (k := 1) rq8 (fun t => .refl _) rs8 (Ne.symm n1) z1
    have s1s := AH.get_push_old (get_same (p := .row [intsV [10 * stamp + i], intsV [1]] true 1) (get_other (p := AObj.dead) rs8 (Ne.symm n1))) .dead
    have s1p := AH.get_push_old (get_other (p := .row [intsV [10 * stamp + i], intsV [1]] true 1) (get_other (p := AObj.dead) rp8 (Ne.symm n6)) (Ne.symm n4)) .dead
    have s1r := AH.get_push_old (get_other (p := .row [intsV [10 * stamp + i], intsV [1]] true 1) (get_other (p := AObj.dead) rr8 (Ne.symm n2)) (Ne.symm n3)) .dead
    have l1 := ((hleF.set (B := h4.n) (by omega) AObj.dead).set (B := Bs) (by omega) (.row [intsV [10 * stamp + i], intsV [1]] true 1)).push .dead
    generalize (((h8.set h4.n AObj.dead).set Bs (.row [intsV [10 * stamp + i], intsV [1]] true 1)).push .dead) = h9 at G1 s1s s1p s1r l1
    have G2 := fun fr => Gs.up (fr := fr) (k := 1) s1s (fun t => .refl _) s1p (Ne.symm n4) z2
    have s2p := AH.get_push_old (get_same (p := .row [.int .i64 (restZ x 12), setsV [[10 * stamp + i], [1]], .slice (some ⟨Br, 0, none⟩) 2 cr] true 0) (get_other (p := AObj.dead) s1p (Ne.symm n4))) .dead
    have s2r := AH.get_push_old (get_other (p := .row [.int .i64 (restZ x 12), setsV [[10 * stamp + i], [1]], .slice (some ⟨Br, 0, none⟩) 2 cr] true 0) (get_other (p := AObj.dead) s1r (Ne.symm n3)) n5) .dead
    have l2 := ((l1.set (B := Bs) (by omega) AObj.dead).set (B := h3.n) (by omega) (.row [.int .i64 (restZ x 12), setsV [[10 * stamp + i], [1]], .slice (some ⟨Br, 0, none⟩) 2 cr] true 0)).push .dead
    generalize (((h9.set Bs AObj.dead).set h3.n (.row [.int .i64 (restZ x 12), setsV [[10 * stamp + i], [1]], .slice (some ⟨Br, 0, none⟩) 2 cr] true 0)).push .dead) = h10 at G2 s2p s2r l2
    have G3 := fun fr => Gs.up (fr := fr) (k := 2) s2r (fun t => .refl _) s2p (Ne.symm n5) z3
    have s3p := AH.get_push_old (get_same (p := .row [.int .i64 (restZ x 12), setsV [[10 * stamp + i], [1]], refsV [⟨10 * stamp + i, 0⟩, ⟨1, stamp⟩]] true 0) (get_other (p := AObj.dead) s2p (Ne.symm n5))) .dead
    have l3 := ((l2.set (B := Br) (by omega) AObj.dead).set (B := h3.n) (by omega) (.row [.int .i64 (restZ x 12), setsV [[10 * stamp + i], [1]], refsV [⟨10 * stamp + i, 0⟩, ⟨1, stamp⟩]] true 0)).push .dead
    refine w_give (Gs.trans (G1 _) (Gs.trans (G2 _) (G3 _))) ?_
    refine ins_ok (x := hitOf stamp i x) (P := h3.n) (l3.get hB) (by rw [hM]; exact s3p) (by omega) hl hll hlen rfl rfl rfl ?_
    rintro fr' h' h2 ⟨g1, g2, g4, g7, g8⟩ hG hBt hr
    exact hQ fr' h' h2 ⟨g1, g2, g4, g7, g8⟩ hG ((l3.but _).trans hBt fun k hk => .inl hk) hr
  · have hd : (((i % 2 : Nat) : Int) == 1) = false := by rw [beq_eq_false_iff_ne]; omega
    have hM : hitOf stamp i x = ⟨restZ x 12, ⟨[[10 * stamp + i]], [⟨10 * stamp + i, 0⟩]⟩⟩ := by unfold hitOf; rw [if_neg hodd]
    refine w_cond rfl (fun e => by rw [hd] at e; cases e) (fun _ => w_skip (t_norm ?_))
    have z1 : OFZ b2 (flat [intsV [10 * stamp + i]]) 1 (.row [.int .i64 (restZ x 12), .slice (some ⟨b2, 0, none⟩) 1 2, .slice (some ⟨b3, 0, none⟩) 1 2] true 0) (.row [.int .i64 (restZ x 12), setsV [[10 * stamp + i]], .slice (some ⟨b3, 0, none⟩) 1 2] true 0) :=
      OFZ.rowL (.cons (.refl _) (.cons (FZ.flat (els := [intsV [10 * stamp + i]]) (sz_ints [[10 * stamp + i]])) (.cons (.refl _) .nil)))
    have z2 : OFZ b3 (flat [refV ⟨10 * stamp + i, 0⟩]) 2 (.row [.int .i64 (restZ x 12), setsV [[10 * stamp + i]], .slice (some ⟨b3, 0, none⟩) 1 2] true 0) (.row [.int .i64 (restZ x 12), setsV [[10 * stamp + i]], refsV [⟨10 * stamp + i, 0⟩]] true 0) :=
      OFZ.rowL (.cons (.refl _) (.cons (.refl _) (.cons (FZ.flat (els := [refV ⟨10 * stamp + i, 0⟩]) (sz_ref [⟨10 * stamp + i, 0⟩])) .nil)))
    have u1 := get_other (p := AObj.dead) rp' (show h3.n ≠ b2 by omega)
    have u3 := AH.get_push_old (get_other (p := .row [.int .i64 (restZ x 12), setsV [[10 * stamp + i]], .slice (some ⟨b3, 0, none⟩) 1 2] true 0) (get_other (p := AObj.dead) r3' (Ne.symm hbne)) (show b3 ≠ h3.n by omega)) .dead
    have up := AH.get_push_old (get_same (p := .row [.int .i64 (restZ x 12), setsV [[10 * stamp + i]], .slice (some ⟨b3, 0, none⟩) 1 2] true 0) u1) .dead
    refine w_give (Gs.trans (Gs.up (k := 1) r2' (fun t => .refl _) rp' (show h3.n ≠ b2 by omega) z1) (Gs.up (k := 2) u3 (fun t => .refl _) up (show h3.n ≠ b3 by omega) z2)) ?_
    have hleF := ((((((hle4.set hb2 AObj.dead).set (B := h3.n) (by omega) (.row [.int .i64 (restZ x 12), setsV [[10 * stamp + i]], .slice (some ⟨b3, 0, none⟩) 1 2] true 0)).push .dead).set hb3 .dead).set (B := h3.n) (by omega) (.row [.int .i64 (restZ x 12), setsV [[10 * stamp + i]], refsV [⟨10 * stamp + i, 0⟩]] true 0)).push .dead)
    refine ins_ok (x := hitOf stamp i x) (P := h3.n) (hleF.get hB) (by rw [hM]; exact AH.get_push_old (get_same (get_other up (show h3.n ≠ b3 by omega))) _) (by omega) hl hll hlen rfl rfl rfl ?_
    rintro fr' h' h2 ⟨g1, g2, g4, g7, g8⟩ hG hBt hr
    exact hQ fr' h' h2 ⟨g1, g2, g4, g7, g8⟩ hG ((hleF.but _).trans hBt fun k hk => .inl hk) hr
end Go.AI.Q
