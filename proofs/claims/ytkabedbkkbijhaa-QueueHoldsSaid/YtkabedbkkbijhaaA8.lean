/-
  EACH OPERATION OF THE INTERPRETER AGAINST THE MODEL'S: append, addresses, parts. (Own work.)
-/
import Derived.Test.YtkabedbkkbijhaaA7
namespace Go.AI
open Go.RowKit

section
variable {okc : Nat → Code → XC → Prop} {P : Program} {T : Tab} {ρ : Ren} {h : AH} {w : World}
theorem HR.drew (H : HR okc ρ h w) : HR okc ρ h w.drew := ⟨H.dom, H.lt, fun B o e hB he => (H.obj B o e hB he).imp id fun ho => ho.mono (.refl _) rfl, H.inj, H.ro, H.frz⟩
theorem Ext.drew {ρ' : Ren} {h' : AH} {w' : World} (E : Ext ρ h w.drew ρ' h' w') : Ext ρ h w ρ' h' w' := ⟨E.sub, E.n, E.old, E.size, E.os, E.tape, E.output, E.keep⟩
theorem HR.kill (H : HR okc ρ h w) {B : Nat} {o : AObj} (hB : h.get B = some o) : HR okc ρ (h.set B .dead) w ∧ Ext ρ h w ρ (h.set B .dead) w := by
  have hg := AH.get_set hB .dead
  have hget : ∀ C p, (h.set B .dead).get C = some p → p = .dead ∨ h.get C = some p := fun C p hC => by
    rw [hg] at hC
    by_cases x : C = B
    · rw [if_pos x] at hC; cases hC; exact .inl rfl
    · rw [if_neg x] at hC; exact .inr hC
  have hown : ∀ k, Own ρ (h.set B .dead) k → Own ρ h k := by
    rintro k ⟨C, f, p, hC, hp, hop, hf⟩
    rcases hget C p hp with rfl | hp'
    · simp [owned] at hop
    · exact ⟨C, f, p, hC, hp', hop, hf⟩
  have E : Ext ρ h w ρ (h.set B .dead) w := ⟨.refl _, by simp, fun _ _ => rfl, Nat.le_refl _, rfl, rfl, rfl, fun k _ hk => ⟨rfl, fun x => hk (hown k x)⟩⟩
  refine ⟨⟨fun C e he => by rw [AH.n_set]; exact H.dom C e he, H.lt, fun C p e hp he => ?_, ?_, ?_, H.frz_ext E fun _ _ x => .inl x⟩, E⟩
  · rcases hget C p hp with rfl | hp'
    · exact .inl rfl
    · exact H.obj C p e hp' he
  · intro C C' f f' p p' hp hp' hop hop' hf hf' hbb
    rcases hget C p hp with rfl | hp1
    · simp [owned] at hop
    · rcases hget C' p' hp' with rfl | hp2
      · simp [owned] at hop'
      · exact H.inj C C' f f' p p' hp1 hp2 hop hop' hf hf' hbb
  · intro C f cs sz hp hf hown'
    rcases hget C _ hp with x | hp1
    · cases x
    · exact H.ro C f cs sz hp1 hf (hown _ hown')
/-- What is appended. -/
theorem src_spec (H : HR okc ρ h w) {g : TI} {x x' : Value} {new : List Value} {n : Nat} (hl : srcCells h g x = some (new, n)) (hx : VR ρ x x') :
    ∃ new', CL ρ new new' ∧ new.length = n * g.size ∧ (∀ w2, (Builtin.lenOf x').run P w2 = .ok n w2) ∧
      ∀ w2 : World, w2.heap = w.heap → (Builtin.firstCells g.size n x').run P w2 = .ok new'.toArray w2 := by
  unfold srcCells at hl
  split at hl
  · cases hl
    cases hx
    exact ⟨[], .nil, by simp, fun w2 => by simp [Builtin.lenOf], fun w2 _ => by simp [Builtin.firstCells]⟩
  · rename_i a n' c
    cases hc : h.cells a (n' * g.size) with
    | none => rw [hc] at hl; cases hl
    | some l =>
      rw [hc] at hl; cases hl
      obtain ⟨e, ca, ccap, rfl, he, hadr0, hlen, hcc, ha, hb⟩ := sl_inv hx
      obtain ⟨l', hR, hn, hcell⟩ := cells_spec H hc he
      refine ⟨l', hR, hn, fun w2 => by simp [Builtin.lenOf], fun w2 hw2 => ?_⟩
      have hlen' : l'.length = n * g.size := by rw [← hR.1, hn]
      have := run_firstCells_some (P := P) w2 g.size n ca n ccap l' hlen' (fun j v hj => by
        rcases ha with h0 | rfl
        · have : n = 0 := by omega
          subst this
          have : l' = [] := List.eq_nil_of_length_eq_zero (by simpa using hlen')
          subst this; simp at hj
        · rw [add_none]
          have := hcell j v hj
          simp only [World.cell?, hw2]
          simpa only [World.cell?] using this)
      simpa [Builtin.firstCells] using this
  · rename_i s
    split at hl
    · rename_i hsz
      cases hl
      obtain rfl := string_inv hx
      refine ⟨s.data.toList.map fun b => .int .u8 b.toNat, ⟨rfl, fun i x y hx hy => ?_⟩, by simp [hsz], fun w2 => by simp [Builtin.lenOf], fun w2 _ => ?_⟩
      · rw [hx] at hy; cases hy
        rw [List.getElem?_map] at hx
        cases hb : s.data.toList[i]? with
        | none => rw [hb] at hx; cases hx
        | some b => rw [hb] at hx; cases hx; exact ⟨.int _ _, rfl⟩
      · have e1 : (s.extract 0 s.size) = s := by
          apply ByteArray.ext
          rw [ByteArray.data_extract]
          simp
        simp only [Builtin.firstCells, e1, Sem.run_pure]
        congr 1
        apply Array.ext'
        simp
    · cases hl
  · split at hl
    · rename_i k els hps
      split at hl
      · rename_i hk
        subst hk
        cases hl
        obtain ⟨ca, ccap, rfl, hlc, _, hcase⟩ := ps_inv hps hx
        rcases hcase with ⟨rfl, hcn⟩ | ⟨B, e, arr, off, he, hf, rfl, hb, hk, hv, ho⟩
        · refine ⟨[], .nil, by simp, fun w2 => by simp [Builtin.lenOf], fun w2 _ => ?_⟩
          cases ca with
          | none => simp [Builtin.firstCells]
          | some a => have := run_firstCells_some (P := P) w2 g.size 0 a 0 ccap [] (by simp) (fun j v hj => by simp at hj); simpa [Builtin.firstCells] using this
        · obtain ⟨⟨t, fz, hh⟩, _⟩ := H.frz B e arr he hf
          have hflat : ∀ (ys : List Value) (o : Nat), (∀ (i : Nat) (v : Value), ys[i]? = some v → v.cells.size = g.size ∧ notTup v = true) →
              (∀ (i j : Nat) (v c c' : Value), ys[i]? = some v → v.cells[j]? = some c → arr[o + i * g.size + j]? = some c' → VR ρ c c') →
              (∀ (i j : Nat) (v c c' : Value), ys[i]? = some v → v.cells[j]? = some c → arr[o + i * g.size + j]? = some c' → c'.oneCell' = true) → o + ys.length * g.size ≤ arr.size →
              CL ρ (ys.flatMap fun v => v.cells.toList) ((arr.toList.drop o).take (ys.length * g.size)) := by
            intro ys
            induction ys with
            | nil => intro o _ _ _ _; simpa using L2.nil
            | cons y ys ih =>
              intro o q1 q2 q3 q4
              have hy := (q1 0 y rfl).1
              rw [List.length_cons, Nat.add_mul, Nat.one_mul] at q4
              rw [List.flatMap_cons, List.length_cons, Nat.add_mul, Nat.one_mul, Nat.add_comm (ys.length * g.size), List.take_add, List.drop_drop]
              refine L2.append ⟨?_, fun i a b ha hb' => ?_⟩ (ih (o + g.size) (fun i v hi => q1 (i + 1) v (by simpa using hi)) (fun i j v c c' hi hj hc => q2 (i + 1) j v c c' (by simpa using hi) hj (by rw [← hc, Nat.add_mul]; congr 1; omega))
                (fun i j v c c' hi hj hc => q3 (i + 1) j v c c' (by simpa using hi) hj (by rw [← hc, Nat.add_mul]; congr 1; omega)) (by omega))
              · simp [hy]; omega
              · rw [List.getElem?_take] at hb'
                split at hb'
                · rw [List.getElem?_drop, Array.getElem?_toList] at hb'
                  rw [Array.getElem?_toList] at ha
                  exact ⟨q2 0 i y a b rfl ha (by simpa using hb'), q3 0 i y a b rfl ha (by simpa using hb')⟩
                · cases hb'
          have hR := hflat els off hk hv ho hb
          have hl2 : ((arr.toList.drop off).take (els.length * g.size)).length = els.length * g.size := by simp; omega
          refine ⟨_, hR, by rw [hR.1, hl2], fun w2 => by simp [Builtin.lenOf], fun w2 hw2 => ?_⟩
          have := run_firstCells_some (P := P) w2 g.size els.length ⟨e.blk, off, none⟩ els.length ccap _ hl2 (fun j v hj => by
            rw [List.getElem?_take] at hj
            split at hj
            · rw [List.getElem?_drop, Array.getElem?_toList] at hj
              simp only [add_none, World.cell?, hw2, hh, Option.isSome_none, Bool.false_eq_true, if_false]
              exact hj
            · cases hj)
          simpa [Builtin.firstCells] using this
      · cases hl
    · cases hl
theorem clip_inv {s s' : Value} (hclip : clipOf s = true) (hs : VR ρ s s') : ∃ ca n, s' = .slice ca n n := by
  cases hs with
  | ps hcl h1 h2 h3 h4 h5 h6 h7 =>
    simp [clipOf] at hclip
    have := hcl hclip.1
    subst this
    exact ⟨_, _, rfl⟩
  | ps0 l k => exact ⟨_, _, rfl⟩
  | ps1 l k a c hcl =>
    simp [clipOf] at hclip
    have := hcl hclip.1
    subst this
    exact ⟨_, _, rfl⟩
  | yield h => simp [clipOf, psOf] at hclip
  | pp h1 h2 h3 h4 h5 h6 => simp [clipOf, psOf] at hclip
  | _ => simp [clipOf] at hclip
theorem grownCap_le (w : World) (need old : Nat) (e : TypeId) : need ≤ grownCap w need old e := by simp [grownCap, Question.cut]
theorem room_spec {n bytes : Nat} (hr : roomOk n bytes = true) (old : Nat) (ho : old < n) : ¬ (Builtin.nextslicecap n old * bytes > 2 ^ 48) ∧ ¬ ((n : Int) > IntKind.i64.max) := by
  unfold roomOk at hr
  simp only [Bool.and_eq_true, decide_eq_true_eq] at hr
  have := growslice_fits (bytes := bytes) ho (by omega)
  simp
  omega
theorem not_int {dx : TypeDesc} (h : ∀ k, udOf dx = .int k → False) : ∀ k, dx ≠ .int k := fun k e => h k (by rw [e]; rfl)
theorem size_zeroCells (z : Array Value) (n : Nat) : (Builtin.zeroCells z n).size = n * z.size := by simp [Builtin.zeroCells]
variable (hT : ∀ t i, T t = some i → tabOf P t = some i)
include hT
set_option maxHeartbeats 4000000 in
theorem append_sound (H : HR okc ρ h w) {t xt ty : TypeId} {s x s' x' : Value} {r : Value × AH} (hl : aAppend T h t xt s x = some r) (hs : VR ρ s s') (hx : VR ρ x x') :
    Got okc P ρ h w (Builtin.append_ #[t, xt] ty #[s', x']) r.1 r.2 := by
  unfold aAppend at hl
  split at hl
  · rename_i g xi hg hxi
    obtain ⟨e, hd, sg⟩ := elemOfSlice_spec hT hg
    obtain ⟨I, hI, hIb, hIs⟩ := sg.typeInfo w
    obtain ⟨dx, hdx, hudx⟩ := und (tsp hT hxi)
    have hzero := sg.zeroValue (P := P)
    have hsize := sg.sizeOf (P := P)
    have htI : ∀ w2, (typeInfo e).run P w2 = .ok I w2 := by
      obtain ⟨I2, _, hI2, _⟩ := sg.ex
      intro w2
      have h2 : (typeInfo e).run P w = .ok I2 w := by simp [Go.typeInfo, hI2]
      rw [h2] at hI; cases hI
      simp [Go.typeInfo, hI2]
    split at hl
    · cases hl
    · -- onto nil
      rename_i new n hsrc hni
      have hnz := not_int fun k hk => hni k (hudx.trans hk)
      cases hs
      obtain ⟨new', hR, hlen, hlo, hfc⟩ := src_spec (P := P) H hsrc hx
      split at hl
      · rename_i hn0
        cases hl; subst hn0
        have hf0 := hfc w rfl
        have : new'.toArray = #[] := by
          have : new'.length = 0 := by rw [← hR.1, hlen]; simp
          rw [List.eq_nil_of_length_eq_zero this]
        refine ⟨ρ, .slice none 0 0, w, ?_, .sl0, H, .refl _ _ _⟩
        revert hdx hnz; clear hudx
        cases dx <;> intro hdx hnz <;> first
          | exact absurd rfl (hnz _)
          | simp only [Builtin.append_, Sem.run_bind, run_underlying hd, run_underlying hdx, hsize, Result.andThen_ok, Sem.run_pure, List.getElem?_toArray, List.getElem?_cons_zero, List.getElem?_cons_succ, hlo, Bool.not_false, if_true, if_false, Bool.false_eq_true, Nat.add_zero, Nat.le_refl, hf0]
      · rename_i hn0
        split at hl
        · rename_i hroom
          cases hl
          obtain ⟨q1, q2⟩ := room_spec hroom 0 (by omega)
          have hf0 := hfc w.drew rfl
          let arr : Array Value := #[] ++ new'.toArray ++ Builtin.zeroCells g.zero.cells (grownCap w n 0 e - n)
          have hcap := grownCap_le w n 0 e
          have hasz : arr.size = grownCap w n 0 e * g.size := by
            have h1 : new'.length = n * g.size := by rw [← hR.1, hlen]
            have h2 : grownCap w n 0 e * g.size = n * g.size + (grownCap w n 0 e - n) * g.size := by rw [← Nat.add_mul]; congr 1; omega
            simp [arr, size_zeroCells, sg.csz, h1, h2]
          obtain ⟨a1, a2, a3⟩ := newSlice_sound (okc := okc) (e := e) H.drew new new' arr n 0 g.size (grownCap w n 0 e) hR (by simp [arr, hR.1]) hcap (fun x => absurd rfl x) (by omega)
          refine ⟨_, _, _, ?_, a1, a2, a3.drew⟩
          have hle : ¬ (n ≤ 0) := by omega
          have q1' : ¬ (Builtin.nextslicecap n 0 * I.bytes > 2 ^ 48) := by rw [hIb]; exact q1
          have q2' : ¬ ((n : Int) > IntKind.i64.max ∧ (False ∨ I.bytes = 0)) := fun x => q2 x.1
          revert hdx hnz; clear hudx
          cases dx <;> intro hdx hnz <;> first
            | exact absurd rfl (hnz _)
            | (simp only [Builtin.append_, Sem.run_bind, run_underlying hd, run_underlying hdx, hsize, Result.andThen_ok, Sem.run_pure, List.getElem?_toArray, List.getElem?_cons_zero, List.getElem?_cons_succ, hlo, Bool.not_false, if_true, if_false, Bool.false_eq_true, Nat.zero_add, if_neg hle, Sem.run_ite, htI, if_neg q1', run_choose, Question.forced, run_askRoom, run_firstCells_none, hf0, hzero, newRow, run_newObj, if_neg q2', World.drew_eq]
               rfl)
        · cases hl
    · -- onto a row
      rename_i new n a len c hsrc hni
      have hnz := not_int fun k hk => hni k (hudx.trans hk)
      obtain ⟨en, ca, ccap, rfl, he, hadr0, hlen0, hcc, ha, hb⟩ := sl_inv hs
      obtain ⟨new', hR, hlen, hlo, hfc⟩ := src_spec (P := P) H hsrc hx
      split at hl
      · rename_i hn0
        cases hl; subst hn0
        have hf0 := hfc w rfl
        have : new' = [] := by
          have : new'.length = 0 := by rw [← hR.1, hlen]; simp
          exact List.eq_nil_of_length_eq_zero this
        subst this
        refine ⟨ρ, .slice (some ca) len ccap, w, ?_, hs, H, .refl _ _ _⟩
        revert hdx hnz; clear hudx
        cases dx <;> intro hdx hnz <;> first
          | exact absurd rfl (hnz _)
          | simp only [Builtin.append_, Sem.run_bind, run_underlying hd, run_underlying hdx, hsize, Result.andThen_ok, Sem.run_pure, List.getElem?_toArray, List.getElem?_cons_zero, List.getElem?_cons_succ, hlo, Bool.not_false, if_true, if_false, Bool.false_eq_true, Nat.add_zero, hlen0, hf0, storeCells]
      · rename_i hn0
        split at hl
        · rename_i hroom
          split at hl
          · rename_i old hold
            obtain ⟨old', hRo, hno, hcell⟩ := cells_spec H hold he
            have hff : ∀ w2 : World, w2.heap = w.heap → (Builtin.firstCells g.size len (.slice (some ca) len ccap)).run P w2 = .ok old'.toArray w2 := fun w2 hw2 => by
              have hlen' : old'.length = len * g.size := by rw [← hRo.1, hno]
              exact run_firstCells_some (P := P) w2 g.size len ca len ccap old' hlen' (fun j v hj => by
                rcases ha with h0 | rfl
                · have : len = 0 := by omega
                  subst this
                  have : old' = [] := List.eq_nil_of_length_eq_zero (by simpa using hlen')
                  subst this; simp at hj
                · rw [add_none]
                  have := hcell j v hj
                  simp only [World.cell?, hw2]
                  simpa only [World.cell?] using this)
            -- the growing way
            have grow : ccap < len + n → ∀ (h1 : AH), h1.n = h.n → HR okc ρ h1 w → Ext ρ h w ρ h1 w → Got okc P ρ h w (Builtin.append_ #[t, xt] ty #[.slice (some ca) len ccap, x']) (newRowV h1 (old ++ new) g.size (len + n) 0).1 (newRowV h1 (old ++ new) g.size (len + n) 0).2 := by
              intro hlt h1 hn1 H1 E1
              obtain ⟨q1, q2⟩ := room_spec hroom ccap hlt
              have hf0 := hfc w.drew rfl
              have hf1 := hff w.drew rfl
              let arr : Array Value := old'.toArray ++ new'.toArray ++ Builtin.zeroCells g.zero.cells (grownCap w (len + n) ccap e - (len + n))
              have hcap := grownCap_le w (len + n) ccap e
              have hasz : arr.size = grownCap w (len + n) ccap e * g.size := by
                have h1 : new'.length = n * g.size := by rw [← hR.1, hlen]
                have h1' : old'.length = len * g.size := by rw [← hRo.1, hno]
                have h2 : grownCap w (len + n) ccap e * g.size = (len + n) * g.size + (grownCap w (len + n) ccap e - (len + n)) * g.size := by rw [← Nat.add_mul]; congr 1; omega
                rw [Nat.add_mul] at h2
                simp only [arr, Array.size_append, List.size_toArray, size_zeroCells, sg.csz, h1, h1', h2]
              obtain ⟨a1, a2, a3⟩ := newSlice_sound (okc := okc) (e := e) H1.drew (old ++ new) (old' ++ new') arr (len + n) 0 g.size (grownCap w (len + n) ccap e) (hRo.append hR) (by
                have e1 : (old ++ new).length = (old' ++ new').length := (hRo.append hR).1
                have e2 : arr.toList = (old' ++ new') ++ (Builtin.zeroCells g.zero.cells (grownCap w (len + n) ccap e - (len + n))).toList := by simp [arr]
                rw [e1, e2, List.take_left]) hcap (fun x => absurd rfl x) (by omega)
              refine ⟨_, _, _, ?_, a1, a2, E1.trans a3.drew⟩
              have hle : ¬ (len + n ≤ ccap) := by omega
              have q1' : ¬ (Builtin.nextslicecap (len + n) ccap * I.bytes > 2 ^ 48) := by rw [hIb]; exact q1
              have q2' : ¬ (((len + n : Nat) : Int) > IntKind.i64.max ∧ (False ∨ I.bytes = 0)) := fun x => q2 x.1
              revert hdx hnz; clear hudx
              cases dx <;> intro hdx hnz <;> first
                | exact absurd rfl (hnz _)
                | (simp only [Builtin.append_, Sem.run_bind, run_underlying hd, run_underlying hdx, hsize, Result.andThen_ok, Sem.run_pure, List.getElem?_toArray, List.getElem?_cons_zero, List.getElem?_cons_succ, hlo, Bool.not_false, if_true, if_false, Bool.false_eq_true, if_neg hle, Sem.run_ite, htI, if_neg q1', if_neg q2', run_choose, Question.forced, run_askRoom, hf0, hf1, hzero, newRow, run_newObj, World.drew_eq]
                   rfl)
            split at hl
            · rename_i hc
              cases hl
              exact grow (by rw [hcc hc.1]; exact hc.2) h rfl H (.refl _ _ _)
            · rename_i hc
              split at hl
              · rename_i cs0 sz0 hget
                split at hl
                · rename_i hsz0
                  cases hl
                  by_cases hfit : len + n ≤ ccap
                  · -- in place
                    rcases H.obj _ _ _ hget he with x | hor
                    · cases x
                    obtain ⟨h1, h2, arr, ta, fz, hh, ht, hf, hvc, hlr⟩ := hor
                    obtain rfl := hf rfl
                    obtain rfl : ca = ⟨en.blk, en.off + a.off, none⟩ := by
                      rcases ha with h0 | h0
                      · omega
                      · exact h0
                    have hbound := hb h1
                    rw [h2, hsz0] at hbound
                    have hnl : new'.length = n * g.size := by rw [← hR.1, hlen]
                    have hol : old'.length = len * g.size := by rw [← hRo.1, hno]
                    have hmul : (len + n) * g.size ≤ ccap * g.size := Nat.mul_le_mul_right _ hfit
                    rw [Nat.add_mul] at hmul
                    have hf0 := hfc w rfl
                    obtain ⟨w', arr', r1, r2, r3, r4, r5, r6, r7, r8⟩ := run_storeCells (P := P) new' w en.blk (en.off + a.off + len * g.size) 0 arr ta hh (by rw [hnl, ht]; omega) (fun v hv' => by
                      obtain ⟨i, hi⟩ := List.getElem?_of_mem hv'
                      have hi' : i < new.length := by rw [hR.1]; exact (List.getElem?_eq_some_iff.1 hi).1
                      exact (hR.2 i _ v (List.getElem?_eq_getElem hi') hi).2)
                    have hasz : arr'.size = arr.size := by
                      have := congrArg List.length r3
                      rw [length_putAt] at this
                      simpa using this
                    have hsub := H.sub_add ⟨en.blk, en.off + a.off, en.tot, g.size, true, none⟩
                    obtain ⟨k1, k2⟩ := H.take (e' := ⟨en.blk, en.off + a.off, en.tot, g.size, true, none⟩) (o' := .row (old ++ new) true g.size) hget rfl he rfl rfl rfl r4 r5 r6 r7 r8 (by
                      refine ⟨rfl, rfl, arr', ta, (0, 0), r2, by rw [hasz, ht], fun _ => rfl, ?_, ?_⟩
                      · have hcl := (hRo.append hR).mono fun _ _ x => x.mono hsub
                        have e1 : (arr'.toList.drop (en.off + a.off)).take (old ++ new).length = old' ++ new' := by
                          apply List.ext_getElem?
                          intro i
                          have hll : (old ++ new).length = old'.length + new'.length := by rw [List.length_append, hRo.1, hR.1]
                          rw [List.getElem?_take, hll]
                          split
                          · rename_i hi
                            rw [List.getElem?_drop, r3, getElem?_putAt]
                            by_cases hio : i < old'.length
                            · rw [List.getElem?_append_left hio, if_neg (by omega)]
                              have := hcell i (old'[i]) (List.getElem?_eq_getElem hio)
                              simp only [World.cell?, hh, Option.isSome_none, Bool.false_eq_true, if_false] at this
                              rw [List.getElem?_eq_getElem hio, ← this]
                              simp
                            · rw [List.getElem?_append_right (by omega), if_pos (by simp; omega)]
                              congr 1; omega
                          · rename_i hi
                            rw [List.getElem?_eq_none]
                            simp; omega
                        rw [e1]; exact hcl
                      · rw [hasz, List.length_append, hRo.1, hR.1, hol, hnl, ht]; dsimp only; omega)
                    refine ⟨_, .slice (some ⟨en.blk, en.off + a.off, none⟩) (len + n) ccap, w', ?_, ?_, k1, k2⟩
                    · revert hdx hnz; clear hudx
                      cases dx <;> intro hdx hnz <;> first
                        | exact absurd rfl (hnz _)
                        | simp only [Builtin.append_, Sem.run_bind, run_underlying hd, run_underlying hdx, hsize, Result.andThen_ok, Sem.run_pure, List.getElem?_toArray, List.getElem?_cons_zero, List.getElem?_cons_succ, hlo, Bool.not_false, if_true, if_false, Bool.false_eq_true, hfit, hf0, add_none, r1]
                    · refine VR.sl (e := ⟨en.blk, en.off + a.off, en.tot, g.size, true, none⟩) ?_ hfit (fun hc0 => hcc hc0) (.inr rfl) (fun _ => by dsimp only; omega)
                      have := Ren.add_new ρ h.n ⟨en.blk, en.off + a.off, en.tot, g.size, true, none⟩
                      simpa using this
                  · have hc0 : c = 0 := by
                      rcases Nat.eq_zero_or_pos c with x | x
                      · exact x
                      · exact absurd ⟨by omega, by have := hcc (by omega); omega⟩ hc
                    subst hc0
                    obtain ⟨k1, k2⟩ := H.kill hget
                    exact grow (by omega) (h.set a.block .dead) (by simp) k1 k2
                · cases hl
              · cases hl
          · cases hl
        · cases hl
    · -- onto what has no room behind it
      rename_i new n hsrc _ _ hni
      have hnz := not_int fun k hk => hni k (hudx.trans hk)
      split at hl
      · rename_i old len hclip hold
        obtain ⟨ca, ccap, rfl⟩ := clip_inv hclip hs
        obtain ⟨old', hRo, hno, hloo, hfo⟩ := src_spec (P := P) H hold hs
        obtain ⟨new', hR, hlen, hlo, hfc⟩ := src_spec (P := P) H hsrc hx
        obtain rfl : len = ccap := by
          have := hloo w
          simp only [Builtin.lenOf, Sem.run_pure] at this
          cases this; rfl
        split at hl
        · rename_i hn0
          cases hl; subst hn0
          have hf0 := hfc w rfl
          have : new' = [] := by
            have : new'.length = 0 := by rw [← hR.1, hlen]; simp
            exact List.eq_nil_of_length_eq_zero this
          subst this
          refine ⟨ρ, .slice ca len len, w, ?_, hs, H, .refl _ _ _⟩
          revert hdx hnz; clear hudx
          cases dx <;> intro hdx hnz <;> first
            | exact absurd rfl (hnz _)
            | (cases ca <;> simp only [Builtin.append_, Sem.run_bind, run_underlying hd, run_underlying hdx, hsize, Result.andThen_ok, Sem.run_pure, List.getElem?_toArray, List.getElem?_cons_zero, List.getElem?_cons_succ, hlo, Bool.not_false, if_true, if_false, Bool.false_eq_true, Nat.add_zero, Nat.le_refl, hf0, storeCells])
        · rename_i hn0
          split at hl
          · rename_i hroom
            cases hl
            have hlt : len < len + n := by omega
            obtain ⟨q1, q2⟩ := room_spec hroom len hlt
            have hf0 := hfc w.drew rfl
            have hf1 := hfo w.drew rfl
            let arr : Array Value := old'.toArray ++ new'.toArray ++ Builtin.zeroCells g.zero.cells (grownCap w (len + n) len e - (len + n))
            have hcap := grownCap_le w (len + n) len e
            have hasz : arr.size = grownCap w (len + n) len e * g.size := by
              have h1 : new'.length = n * g.size := by rw [← hR.1, hlen]
              have h1' : old'.length = len * g.size := by rw [← hRo.1, hno]
              have h2 : grownCap w (len + n) len e * g.size = (len + n) * g.size + (grownCap w (len + n) len e - (len + n)) * g.size := by rw [← Nat.add_mul]; congr 1; omega
              rw [Nat.add_mul] at h2
              simp only [arr, Array.size_append, List.size_toArray, size_zeroCells, sg.csz, h1, h1', h2]
            obtain ⟨a1, a2, a3⟩ := newSlice_sound (okc := okc) (e := e) H.drew (old ++ new) (old' ++ new') arr (len + n) 0 g.size (grownCap w (len + n) len e) (hRo.append hR) (by
              have e1 : (old ++ new).length = (old' ++ new').length := (hRo.append hR).1
              have e2 : arr.toList = (old' ++ new') ++ (Builtin.zeroCells g.zero.cells (grownCap w (len + n) len e - (len + n))).toList := by simp [arr]
              rw [e1, e2, List.take_left]) hcap (fun x => absurd rfl x) (by omega)
            refine ⟨_, _, _, ?_, a1, a2, a3.drew⟩
            have hle : ¬ (len + n ≤ len) := by omega
            have q1' : ¬ (Builtin.nextslicecap (len + n) len * I.bytes > 2 ^ 48) := by rw [hIb]; exact q1
            have q2' : ¬ (((len + n : Nat) : Int) > IntKind.i64.max ∧ (False ∨ I.bytes = 0)) := fun x => q2 x.1
            revert hdx hnz; clear hudx
            cases dx <;> intro hdx hnz <;> first
              | exact absurd rfl (hnz _)
              | (simp only [Builtin.append_, Sem.run_bind, run_underlying hd, run_underlying hdx, hsize, Result.andThen_ok, Sem.run_pure, List.getElem?_toArray, List.getElem?_cons_zero, List.getElem?_cons_succ, hlo, Bool.not_false, if_true, if_false, Bool.false_eq_true, if_neg hle, Sem.run_ite, htI, if_neg q1', if_neg q2', run_choose, Question.forced, run_askRoom, hf0, hf1, hzero, newRow, run_newObj, World.drew_eq]
                 rfl)
          · cases hl
      · cases hl
    · cases hl
  · cases hl
end
end Go.AI
