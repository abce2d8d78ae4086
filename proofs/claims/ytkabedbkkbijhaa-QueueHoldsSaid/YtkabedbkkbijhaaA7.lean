/-
  EACH OPERATION OF THE INTERPRETER AGAINST THE MODEL'S: slices, append. (Own work.)
-/
import Derived.Test.YtkabedbkkbijhaaA6
namespace Go.AI
open Go.RowKit

section
variable {okc : Nat → Code → XC → Prop} {P : Program} {T : Tab} {ρ : Ren} {h : AH} {w : World}
variable (hT : ∀ t i, T t = some i → tabOf P t = some i)
theorem elemOfSlice_spec (hT : ∀ t i, T t = some i → tabOf P t = some i) {t : TypeId} {g : TI} (hl : elemOfSlice T t = some g) : ∃ e, P.underlying t = some (.slice e) ∧ TabSpec P e g := by
  unfold elemOfSlice at hl
  split at hl
  · rename_i i hi
    obtain ⟨d, hd, hud⟩ := und (tsp hT hi)
    split at hl
    · rename_i e he
      rw [hud] at he
      obtain rfl := udOf_slice he.symm
      exact ⟨e, hd, tsp hT hl⟩
    · cases hl
  · cases hl
theorem TabSpec.typeInfo {t : TypeId} {i : TI} (s : TabSpec P t i) (w : World) : ∃ I : TypeInfo, (typeInfo t).run P w = .ok I w ∧ I.bytes = i.bytes ∧ I.size = i.size := by
  obtain ⟨I, d, hI, _, _, h1, h2, _⟩ := s.ex
  exact ⟨I, by simp [Go.typeInfo, hI], h2, h1⟩
include hT
theorem makeSlice_sound (H : HR okc ρ h w) {t : TypeId} {l c l' c' : Value} {r : Value × AH} (hl : aMakeSlice T h t l c = some r) (h1 : VR ρ l l') (h2 : VR ρ c c') :
    Got okc P ρ h w (Instr.makeSlice t l' c') r.1 r.2 := by
  unfold aMakeSlice at hl
  split at hl
  · rename_i g l c hg
    obtain rfl := int_inv h1; obtain rfl := int_inv h2
    split at hl
    · rename_i hc
      obtain ⟨hl0, hlc, hcb, hcm⟩ := hc
      cases hl
      obtain ⟨e, hd, sg⟩ := elemOfSlice_spec hT hg
      obtain ⟨I, hI, hIb, _⟩ := sg.typeInfo w
      obtain ⟨cn, rfl⟩ := Int.eq_ofNat_of_zero_le (Int.le_trans hl0 hlc)
      obtain ⟨ln, rfl⟩ := Int.eq_ofNat_of_zero_le hl0
      have w1 : IntKind.i64.wrap (cn : Int) = cn := by simp [IntKind.wrap, IntKind.bits, IntKind.signed]; omega
      have w2 : IntKind.i64.wrap (ln : Int) = ln := by simp [IntKind.wrap, IntKind.bits, IntKind.signed]; omega
      let arr : Array Value := (zeros g.zero.cells.toList cn).toArray
      have hsz : arr.size = cn * g.size := by simp [arr, length_zeros, sg.csz]
      obtain ⟨a1, a2, a3⟩ := newSlice_sound (okc := okc) (e := e) H (zeros g.zero.cells.toList cn) (zeros g.zero.cells.toList cn) arr ln (cn + 1) g.size cn (cl_zeros (PL.cl_zero sg.flat) cn) (by simp [arr]) (by omega) (fun _ => rfl) (by omega)
      refine ⟨_, _, _, ?_, a1, a2, a3⟩
      have hz2 := zeros_eq g.zero.cells cn (if cn * g.size = 0 then #[] else g.zero.cells) (by rw [sg.csz]; by_cases e0 : cn * g.size = 0; exact .inl e0; exact .inr (by rw [if_neg e0]))
      rw [sg.csz] at hz2
      have hz3 : ((Array.range (cn * g.size)).map fun x => (if cn * g.size = 0 then #[] else g.zero.cells)[x % (if cn * g.size = 0 then #[] else g.zero.cells : Array Value).size]!) = arr := by
        apply Array.ext'; simpa [arr] using hz2
      have hbig : ¬ ((g.bytes : Int) * (cn : Int) > 2 ^ 48) := by
        have : (g.bytes : Int) * (cn : Int) = (cn : Int) * (g.bytes : Int) := Int.mul_comm _ _
        omega
      have hbig2 : ¬ (((2 : Int) ^ 48) < (g.bytes : Int) * (cn : Int)) := hbig
      have hcond : (decide ((cn : Int) < 0) || decide ((2 : Int) ^ 48 < (g.bytes : Int) * (cn : Int))) = false := by
        simp only [Bool.or_eq_false_iff, decide_eq_false_iff_not]; exact ⟨by omega, hbig2⟩
      simp only [Instr.makeSlice, Sem.run_bind, run_underlying hd, Result.andThen_ok, asInt, asIntOf, Sem.run_pure, hI, w1, w2, hIb, gt_iff_lt, hcond, Bool.false_or, run_askRoom, sg.sizeOf, Int.toNat_natCast, Sem.run_ite]
      have hcond2 : (decide ((ln : Int) < 0) || decide ((cn : Int) < (ln : Int))) = false := by
        simp only [Bool.or_eq_false_iff, decide_eq_false_iff_not]; omega
      rw [if_neg (by rw [hcond2]; simp)]
      by_cases e0 : cn * g.size = 0
      · simp only [if_pos e0] at hz3
        simp only [if_pos e0, Sem.run_pure, Result.andThen_ok, hz3, newRow, Sem.run_bind, run_newObj]
        rfl
      · simp only [if_neg e0] at hz3
        simp only [if_neg e0, sg.zeroValue, Sem.run_pure, Result.andThen_ok, Sem.run_bind, hz3, newRow, run_newObj]
        rfl
    · cases hl
  · cases hl
omit hT
theorem bound_inv {v v' : Value} {n : Int} (hb : boundV v = some n) (hv : VR ρ v v') : ∃ k, v' = .int k n := by
  unfold boundV at hb
  split at hb
  · cases hb; exact ⟨_, int_inv hv⟩
  · cases hb
def OptR (ρ : Ren) : Option Value → Option Value → Prop
  | none, none => True
  | some v, some v' => VR ρ v v'
  | _, _ => False
theorem run_bound (k : IntKind) (i : Int) (y : Nat) (code : BoundsCode) (h0 : 0 ≤ i) (h1 : i ≤ y) (w : World) : (Instr.sliceBound (.int k i) y code).run P w = .ok i.toNat w := by
  simp [Instr.sliceBound, asIntOf, h0, h1]
theorem opt_cases {d : Int} {o o' : Option Value} {l : Int} (h : optBound d o = some l) (r : OptR ρ o o') : (o' = none ∧ l = d) ∨ ∃ k, o' = some (.int k l) := by
  cases o with
  | none =>
    cases o' with
    | none => simp only [optBound] at h; cases h; exact .inl ⟨rfl, rfl⟩
    | some v => exact r.elim
  | some v =>
    cases o' with
    | none => exact r.elim
    | some v' =>
      obtain ⟨k, rfl⟩ := bound_inv h r
      exact .inr ⟨k, rfl⟩
/-- The bounds, as the model finds them. -/
theorem run_bounds (isS : Bool) (len cap : Nat) (lo hi lo' hi' : Option Value) (l h : Int) (hlo : optBound 0 lo = some l) (hhi : optBound len hi = some h) (r1 : OptR ρ lo lo') (r2 : OptR ρ hi hi') (h0 : 0 ≤ l) (h1 : l ≤ h) (h2 : h ≤ cap) (w : World) :
    (Instr.sliceBounds isS len cap lo' hi' none).run P w = .ok (l.toNat, h.toNat, cap) w := by
  have b1 := fun (k : IntKind) (c : BoundsCode) (w : World) => run_bound (P := P) k h cap c (by omega) h2 w
  have b2 := fun (k : IntKind) (c : BoundsCode) (w : World) => run_bound (P := P) k l h.toNat c h0 (by omega) w
  rcases opt_cases hlo r1 with ⟨rfl, rfl⟩ | ⟨k, rfl⟩ <;> rcases opt_cases hhi r2 with ⟨rfl, rfl⟩ | ⟨k2, rfl⟩ <;>
    simp [Instr.sliceBounds, b1, b2]
  have := b2 k (if (none : Option Value).isSome then .slice3C else .sliceB) w
  simp at this
  simp [this]
theorem run_bounds3 (len cap : Nat) (lo lo' : Option Value) (v v' mv mv' : Value) (l h m : Int) (hlo : optBound 0 lo = some l) (hhi : boundV v = some h) (hm : boundV mv = some m) (r1 : OptR ρ lo lo') (r2 : VR ρ v v') (r3 : VR ρ mv mv') (h0 : 0 ≤ l) (h1 : l ≤ h) (h2 : h ≤ m) (h3 : m ≤ cap) (w : World) :
    (Instr.sliceBounds true len cap lo' (some v') (some mv')).run P w = .ok (l.toNat, h.toNat, m.toNat) w := by
  obtain ⟨k, rfl⟩ := bound_inv hhi r2
  obtain ⟨k3, rfl⟩ := bound_inv hm r3
  have b0 := fun (c : BoundsCode) (w : World) => run_bound (P := P) k3 m cap c (by omega) h3 w
  have b1 := fun (c : BoundsCode) (w : World) => run_bound (P := P) k h m.toNat c (by omega) (by omega) w
  have b2 := fun (k : IntKind) (c : BoundsCode) (w : World) => run_bound (P := P) k l h.toNat c h0 (by omega) w
  rcases opt_cases hlo r1 with ⟨rfl, rfl⟩ | ⟨k, rfl⟩ <;> simp [Instr.sliceBounds, b0, b1, b2]
theorem sl_inv {a : Addr} {len c : Nat} {v' : Value} (h : VR ρ (.slice (some a) len c) v') : ∃ e ca ccap, v' = .slice (some ca) len ccap ∧ ρ a.block = some e ∧ a = ⟨a.block, a.off, none⟩ ∧ len ≤ ccap ∧ (c ≠ 0 → ccap = c - 1) ∧
    (ccap = 0 ∨ ca = ⟨e.blk, e.off + a.off, none⟩) ∧ (e.rw = true → e.off + a.off + ccap * e.sz ≤ e.tot) := by
  cases h with
  | sl h1 h2 h3 h4 h5 => exact ⟨_, _, _, rfl, h1, rfl, h2, h3, h4, h5⟩
include hT
theorem slice_sound (H : HR okc ρ h w) {t : TypeId} {x x' v : Value} {lo hi mx lo' hi' mx' : Option Value} (hl : aSlice T h t x lo hi mx = some v) (hx : VR ρ x x') (r1 : OptR ρ lo lo') (r2 : OptR ρ hi hi') (r3 : OptR ρ mx mx') :
    ∃ v', (Instr.sliceAt t x' lo' hi' mx').run P w = .ok v' w ∧ VR ρ v v' := by
  unfold aSlice at hl
  split at hl
  · -- a string
    rename_i i s hi0
    obtain ⟨d, hd, hud⟩ := und (tsp hT hi0)
    obtain rfl := string_inv hx
    split at hl
    · rename_i l h' e1 e2 e3
      rw [hud] at e1
      obtain rfl := udOf_string e1.symm
      obtain rfl : mx' = none := by cases mx' with | none => rfl | some _ => exact r3.elim
      split at hl
      · rename_i hc
        cases hl
        have := run_bounds (P := P) false s.size s.size lo hi lo' hi' l h' e2 e3 r1 r2 hc.1 hc.2.1 hc.2.2 w
        exact ⟨_, by simp [Instr.sliceAt, Instr.slice, run_underlying hd, this], .string _⟩
      · cases hl
    · cases hl
  · -- nil
    rename_i i hi0
    obtain ⟨d, hd, hud⟩ := und (tsp hT hi0)
    cases hx
    split at hl
    · rename_i e l h' e1 e2 e3
      rw [hud] at e1
      obtain rfl := udOf_slice e1.symm
      split at hl
      · rename_i hc
        obtain ⟨rfl, rfl, he⟩ := hc
        obtain ⟨g, hg⟩ := Option.isSome_iff_exists.1 he
        split at hl
        · obtain rfl : mx' = none := by cases mx' with | none => rfl | some _ => exact r3.elim
          cases hl
          have := run_bounds (P := P) true 0 0 lo hi lo' hi' 0 0 e2 (by simpa using e3) r1 r2 (by omega) (by omega) (by omega) w
          exact ⟨_, by simp [Instr.sliceAt, Instr.slice, run_underlying hd, this, (tsp hT hg).sizeOf], .sl0⟩
        · rename_i mv
          cases hm : boundV mv with
          | none => rw [hm] at hl; cases hl
          | some m =>
            rw [hm] at hl
            dsimp only at hl
            split at hl
            · rename_i hc2
              obtain ⟨rfl, c3⟩ := hc2
              cases hl
              cases mx' with
              | none => exact r3.elim
              | some mv' =>
                cases hi with
                | none => simp at c3
                | some hv =>
                  cases hi' with
                  | none => exact r2.elim
                  | some hv' =>
                    have := run_bounds3 (P := P) 0 0 lo lo' hv hv' mv mv' 0 0 0 e2 e3 hm r1 r2 r3 (by omega) (by omega) (by omega) (by omega) w
                    exact ⟨_, by simp [Instr.sliceAt, Instr.slice, run_underlying hd, this, (tsp hT hg).sizeOf], .sl0⟩
            · cases hl
      · cases hl
    · cases hl
  · rename_i i a len c hi0
    obtain ⟨d, hd, hud⟩ := und (tsp hT hi0)
    obtain ⟨e, ca, ccap, rfl, he, hadr0, hlen, hcc, ha, hb⟩ := sl_inv hx
    · split at hl
      · rename_i el l h' e1 e2 e3
        rw [hud] at e1
        obtain rfl := udOf_slice e1.symm
        split at hl
        · rename_i g hg
          have sg := tsp hT hg
          dsimp only at hl
          obtain ⟨top, htopd⟩ : ∃ top : Int, top = (if c = 0 then (len : Int) else ((c - 1 : Nat) : Int)) := ⟨_, rfl⟩
          rw [← htopd] at hl
          by_cases hc : sliceable h a g.size = true ∧ 0 ≤ l ∧ l ≤ h' ∧ h' ≤ top
          · rw [if_pos hc] at hl
            obtain ⟨hsl, h0, h1, h2⟩ := hc
            have htop : top ≤ ccap := by
              rw [htopd]
              split
              · omega
              · rename_i hc0; rw [hcc hc0]; omega
            have hszc : e.rw = true → e.sz = g.size := by
              intro hrw
              unfold sliceable at hsl
              split at hsl
              · rename_i cs rw' sz hget
                rcases H.obj _ _ _ hget he with x | hor
                · cases x
                · skip
                  obtain ⟨q1, q2, _⟩ := hor
                  rw [q1] at hrw
                  subst hrw
                  rw [q2]; simpa using hsl
              · cases hsl
            have key : ∀ (m : Nat) (c' : Nat), h' ≤ m → m ≤ ccap → (c' ≠ 0 → m - l.toNat = c' - 1) →
                VR ρ (.slice (some (a.add (l.toNat * g.size))) (h' - l).toNat c')
                  (.slice (if m = l.toNat then some ca else (some ca).map (·.add (l.toNat * g.size))) (h'.toNat - l.toNat) (m - l.toNat)) := by
              intro m c' hm1 hm2 hc'
              have e5 : (h' - l).toNat = h'.toNat - l.toNat := by omega
              rw [hadr0, add_none, e5]
              have hadr : (if m = l.toNat then some ca else (some ca).map (·.add (l.toNat * g.size))) = some (if m = l.toNat then ca else ca.add (l.toNat * g.size)) := by split <;> rfl
              rw [hadr]
              refine .sl he (by omega) hc' ?_ ?_
              · by_cases hml : m = l.toNat
                · exact .inl (by omega)
                · rw [if_neg hml]
                  rcases ha with x | rfl
                  · omega
                  · right; rw [add_none, Nat.add_assoc]
              · intro hrw
                have b1 := hb hrw
                rw [hszc hrw] at b1 ⊢
                have : (l.toNat + (m - l.toNat)) * g.size ≤ ccap * g.size := Nat.mul_le_mul_right _ (by omega)
                rw [Nat.add_mul] at this
                omega
            split at hl
            · cases hl
              obtain rfl : mx' = none := by cases mx' with | none => rfl | some _ => exact r3.elim
              have hb2 := run_bounds (P := P) true len ccap lo hi lo' hi' l h' e2 e3 r1 r2 h0 h1 (by omega) w
              refine ⟨_, by simp only [Instr.sliceAt, Instr.slice, Sem.run_bind, run_underlying hd, Result.andThen_ok, hb2, sg.sizeOf, Sem.run_pure], key ccap _ (by omega) (Nat.le_refl _) ?_⟩
              intro hc'
              split at hc'
              · exact absurd rfl hc'
              · rename_i hc0
                rw [if_neg hc0] at htopd ⊢
                have := hcc hc0
                omega
            · rename_i mv
              cases hm : boundV mv with
              | none => rw [hm] at hl; cases hl
              | some m =>
                rw [hm] at hl
                dsimp only at hl
                split at hl
                · rename_i hc2
                  cases hl
                  obtain ⟨c1, c2, c3⟩ := hc2
                  cases mx' with
                  | none => exact r3.elim
                  | some mv' =>
                    cases hi with
                    | none => simp at c3
                    | some hv =>
                      cases hi' with
                      | none => exact r2.elim
                      | some hv' =>
                        have hb2 := run_bounds3 (P := P) len ccap lo lo' hv hv' mv mv' l h' m e2 e3 hm r1 r2 r3 h0 h1 c1 (by omega) w
                        refine ⟨_, by simp only [Instr.sliceAt, Instr.slice, Sem.run_bind, run_underlying hd, Result.andThen_ok, hb2, sg.sizeOf, Sem.run_pure], key m.toNat _ (by omega) (by omega) ?_⟩
                        intro _; omega
                · cases hl
          · rw [if_neg hc] at hl; cases hl
        · cases hl
      · cases hl
  · -- cells that stay
    rename_i _ i hi0 _ _ _
    obtain ⟨d, hd, hud⟩ := und (tsp hT hi0)
    split at hl
    · rename_i k els hps
      split at hl
      · rename_i e l h' e1 e2 e3
        rw [hud] at e1
        obtain rfl := udOf_slice e1.symm
        split at hl
        · rename_i g hg
          have sg := tsp hT hg
          split at hl
          · rename_i hc
            obtain ⟨h0, h1, h2, hk⟩ := hc
            subst hk
            obtain ⟨ca, ccap, rfl, hlc, _, hcase⟩ := ps_inv hps hx
            -- whatever is left behind it
            have main : ∀ (tag top : Nat), h' ≤ top → top ≤ ccap → (tag = 1 → top = h'.toNat) →
                VR ρ (.func (.yield tag) #[.int .i64 g.size] ((els.take h'.toNat).drop l.toNat).toArray) (.slice (if top = l.toNat then ca else ca.map (·.add (l.toNat * g.size))) (h'.toNat - l.toNat) (top - l.toNat)) := by
              intro tag top ht1 ht2 htag
              have hempty : ∀ (b : Option Addr) (c : Nat), (b = none → c = 0) → (tag = 1 → c = 0) → ((els.take h'.toNat).drop l.toNat) = [] → VR ρ (.func (.yield tag) #[.int .i64 g.size] ((els.take h'.toNat).drop l.toNat).toArray) (.slice b 0 c) := by
                intro b c hbc htc hnil
                rw [hnil]
                cases b with
                | none => rw [hbc rfl]; exact .ps0 _ _
                | some a => exact .ps1 _ _ a c htc
              have hlen : ((els.take h'.toNat).drop l.toNat).length = h'.toNat - l.toNat := by simp; omega
              rcases hcase with ⟨rfl, hcn⟩ | ⟨B, en, arr, off, he, hf, rfl, hb, hk, hv, ho⟩
              · have e5 : h'.toNat - l.toNat = 0 := by simp at h2; omega
                rw [e5]
                refine hempty _ _ ?_ (fun e => by have := htag e; omega) (by simp)
                intro hx
                cases ca with
                | none => have := hcn rfl; omega
                | some a => split at hx <;> simp at hx
              · by_cases hcl : top = l.toNat
                · have e5 : h'.toNat - l.toNat = 0 := by omega
                  rw [e5, if_pos hcl]
                  exact hempty _ _ (fun hx => by cases hx) (fun e => by have := htag e; omega) (List.eq_nil_of_length_eq_zero (by rw [hlen, e5]))
                · rw [if_neg hcl]
                  have key := VR.ps (ρ := ρ) (l := tag) (off := off + l.toNat * g.size) (k := g.size) (ccap := top - l.toNat) (els := ((els.take h'.toNat).drop l.toNat).toArray) (fun e => by have := htag e; simp [hlen]; omega) he hf (by simp [hlen]; omega) (by
                    simp only [List.size_toArray, hlen]
                    have : (l.toNat + (h'.toNat - l.toNat)) * g.size ≤ els.length * g.size := Nat.mul_le_mul_right _ (by omega)
                    rw [Nat.add_mul] at this
                    omega) (fun i v hi => by
                    simp only [List.getElem?_toArray, List.getElem?_drop, List.getElem?_take] at hi
                    split at hi
                    · exact hk _ v hi
                    · cases hi) (fun i j v c c' hi hj hc' => by
                    simp only [List.getElem?_toArray, List.getElem?_drop, List.getElem?_take] at hi
                    split at hi
                    · refine hv _ j v c c' hi hj ?_
                      rw [← hc', Nat.add_mul, Nat.add_assoc, Nat.add_assoc, Nat.add_assoc, Nat.add_assoc]
                    · cases hi) (fun i j v c c' hi hj hc' => by
                    simp only [List.getElem?_toArray, List.getElem?_drop, List.getElem?_take] at hi
                    split at hi
                    · refine ho _ j v c c' hi hj ?_
                      rw [← hc', Nat.add_mul, Nat.add_assoc, Nat.add_assoc, Nat.add_assoc, Nat.add_assoc]
                    · cases hi)
                  simp only [List.size_toArray, hlen] at key
                  simp only [Option.map_some, add_none]
                  exact key
            split at hl
            · obtain rfl : mx' = none := by cases mx' with | none => rfl | some _ => exact r3.elim
              cases hl
              have hb2 := run_bounds (P := P) true els.length ccap lo hi lo' hi' l h' e2 e3 r1 r2 h0 h1 (by omega) w
              exact ⟨.slice (if ccap = l.toNat then ca else ca.map (·.add (l.toNat * g.size))) (h'.toNat - l.toNat) (ccap - l.toNat), by simp only [Instr.sliceAt, Instr.slice, Sem.run_bind, run_underlying hd, Result.andThen_ok, hb2, sg.sizeOf, Sem.run_pure], main 0 ccap (by omega) (Nat.le_refl _) (fun e => by cases e)⟩
            · rename_i mv
              cases hm : boundV mv with
              | none => rw [hm] at hl; cases hl
              | some m =>
                rw [hm] at hl
                dsimp only at hl
                split at hl
                · rename_i hc2
                  obtain ⟨rfl, c3⟩ := hc2
                  cases hl
                  cases mx' with
                  | none => exact r3.elim
                  | some mv' =>
                    cases hi with
                    | none => simp at c3
                    | some hv =>
                      cases hi' with
                      | none => exact r2.elim
                      | some hv' =>
                        have hb2 := run_bounds3 (P := P) els.length ccap lo lo' hv hv' mv mv' l m m e2 e3 hm r1 r2 r3 h0 h1 (Int.le_refl _) (by omega) w
                        exact ⟨.slice (if m.toNat = l.toNat then ca else ca.map (·.add (l.toNat * g.size))) (m.toNat - l.toNat) (m.toNat - l.toNat), by simp only [Instr.sliceAt, Instr.slice, Sem.run_bind, run_underlying hd, Result.andThen_ok, hb2, sg.sizeOf, Sem.run_pure], main 1 m.toNat (by omega) (by omega) (fun _ => rfl)⟩
                · cases hl
          · cases hl
        · cases hl
      · cases hl
    · cases hl
  · cases hl
end
end Go.AI
