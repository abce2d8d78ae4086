/-
  EACH OPERATION OF THE INTERPRETER AGAINST THE MODEL'S. (Own work.)
-/
import Derived.Test.YtkabedbkkbijhaaA3
import Derived.Laws.Tables
import Derived.Laws.Append
import Derived.Laws.Slices
import Derived.WalkKit
namespace Go.AI
open Go.RowKit

section
variable {okc : Nat → Code → XC → Prop} {P : Program} {T : Tab} {ρ : Ren} {h : AH} {w : World}
structure TabSpec (P : Program) (t : TypeId) (i : TI) : Prop where
  ex : ∃ I d, P.info? t = some I ∧ P.underlying t = some d ∧ i.ud = udOf d ∧ I.size = i.size ∧ I.bytes = i.bytes ∧ I.zero = some i.zero
  flat : flatV i.zero = true
  csz : i.zero.cells.size = i.size
  agg : i.ud.agg = Value.isAggV i.zero
  small : i.bytes ≤ 1048576
  eqok : i.eqok = true → P.stoodInHeld t = false ∧ P.eqGuardType P.depth t = false
theorem tab_spec {t : TypeId} {i : TI} (h : tabOf P t = some i) : TabSpec P t i := by
  unfold tabOf at h
  split at h
  · rename_i I d hI hd
    split at h
    · rename_i z hz
      split at h
      · rename_i hc
        cases h
        simp only [Bool.and_eq_true, beq_iff_eq, decide_eq_true_eq] at hc
        exact ⟨⟨I, d, hI, hd, rfl, rfl, rfl, hz⟩, hc.1.1.1, hc.1.1.2, hc.1.2, hc.2, by simp⟩
      · cases h
    · cases h
  · cases h
variable (hT : ∀ t i, T t = some i → tabOf P t = some i)
include hT
theorem tsp {t : TypeId} {i : TI} (h : T t = some i) : TabSpec P t i := tab_spec (hT t i h)
omit hT
theorem TabSpec.sizeOf {t : TypeId} {i : TI} (s : TabSpec P t i) (w : World) : (sizeOf t).run P w = .ok i.size w := by
  obtain ⟨I, d, hI, _, _, hs, _⟩ := s.ex
  simp [Go.sizeOf, typeInfo, hI, hs]
theorem TabSpec.zeroValue {t : TypeId} {i : TI} (s : TabSpec P t i) (w : World) : (zeroValue t).run P w = .ok i.zero w := by
  obtain ⟨I, d, hI, _, _, hs, _, hz⟩ := s.ex
  simp [Go.zeroValue, typeInfo, hI, hz]
theorem TabSpec.isAgg {t : TypeId} {i : TI} (s : TabSpec P t i) (w : World) : (isAgg t).run P w = .ok i.ud.agg w := by
  obtain ⟨I, d, _, hd, hu, _⟩ := s.ex
  simp only [Go.isAgg, Sem.run_bind, run_underlying hd, Result.andThen_ok, hu]
  cases d <;> rfl

/-! ### addresses and cells -/
theorem add_none (b o n : Nat) : (⟨b, o, none⟩ : Addr).add n = ⟨b, o + n, none⟩ := by
  unfold Addr.add; split <;> simp_all
theorem ptr_add {b o n : Nat} {a' : Addr} (h : VR ρ (.pointer (some ⟨b, o, none⟩)) (.pointer (some a'))) : VR ρ (.pointer (some ⟨b, o + n, none⟩)) (.pointer (some (a'.add n))) := by
  cases h with
  | ptr h => rw [add_none, Nat.add_assoc]; exact .ptr h
theorem ptr_inv {a : Addr} {v' : Value} (h : VR ρ (.pointer (some a)) v') : ∃ e, ρ a.block = some e ∧ a.spot = none ∧ v' = .pointer (some ⟨e.blk, e.off + a.off, none⟩) := by
  cases h with
  | ptr h => exact ⟨_, h, rfl, rfl⟩
variable (H : HR okc ρ h w)
include H
theorem row_spec {a : Addr} {cs : List Value} {e : Ent} (hr : h.row a = some cs) (he : ρ a.block = some e) :
    ∃ rw sz arr t fz, h.get a.block = some (.row cs rw sz) ∧ e.rw = rw ∧ e.sz = sz ∧ w.heap[e.blk]? = some (.cells arr t fz) ∧ arr.size = e.tot ∧ (rw = true → fz = (0, 0)) ∧
      CL ρ cs ((arr.toList.drop e.off).take cs.length) ∧ e.off + cs.length ≤ arr.size := by
  unfold AH.row at hr
  split at hr
  · rename_i cs' rw sz hg
    split at hr
    · cases hr
    · cases hr
      rcases H.obj _ _ _ hg he with x | hor
      · cases x
      · skip
        obtain ⟨h1, h2, arr, t, fz, hh, ht, hf, hv, hl⟩ := hor
        exact ⟨rw, sz, arr, t, fz, hg, h1, h2, hh, ht, hf, hv, hl⟩
  · cases hr
theorem cells_spec {a : Addr} {n : Nat} {l : List Value} {e : Ent} (hl : h.cells a n = some l) (he : ρ a.block = some e) :
    ∃ l', CL ρ l l' ∧ l.length = n ∧ ∀ j v, l'[j]? = some v → w.cell? ⟨e.blk, e.off + a.off + j, none⟩ = some v := by
  unfold AH.cells at hl
  cases hr : h.row a with
  | none => rw [hr] at hl; cases hl
  | some cs =>
    rw [hr] at hl
    simp only [Option.bind_some] at hl
    split at hl
    · rename_i hn
      cases hl
      obtain ⟨rw', sz, arr, t, fz, hg, h1, h2, hh, ht, hf, hv, hle⟩ := row_spec H hr he
      refine ⟨_, (hv.drop a.off).take n, by simp; omega, fun j v hj => ?_⟩
      rw [List.getElem?_take] at hj
      split at hj
      · rw [List.getElem?_drop, List.getElem?_take] at hj
        split at hj
        · rw [List.getElem?_drop] at hj
          simp only [World.cell?, hh]
          simp only [Option.isSome_none, Bool.false_eq_true, if_false]
          rw [← Array.getElem?_toList, ← hj]
          congr 1; omega
        · cases hj
      · cases hj
    · cases hl
theorem cell_spec {a : Addr} {v : Value} {e : Ent} (hl : h.cell a = some v) (he : ρ a.block = some e) :
    ∃ v', VC ρ v v' ∧ w.cell? ⟨e.blk, e.off + a.off, none⟩ = some v' := by
  unfold AH.cell at hl
  cases hr : h.row a with
  | none => rw [hr] at hl; cases hl
  | some cs =>
    rw [hr] at hl
    simp only [Option.bind_some] at hl
    obtain ⟨rw', sz, arr, t, fz, hg, h1, h2, hh, ht, hf, hv, hle⟩ := row_spec H hr he
    obtain ⟨v', hv', hR⟩ := hv.get hl
    refine ⟨v', hR, ?_⟩
    rw [List.getElem?_take] at hv'
    split at hv'
    · rw [List.getElem?_drop] at hv'
      simp only [World.cell?, hh]
      simpa using hv'
    · cases hv'
omit H in
theorem pp_inv {a a' v : Value} (hp : ppOf a = some v) (ha : VR ρ a a') : ∃ B e arr off, ρ B = some e ∧ e.frz = some arr ∧ a' = .pointer (some ⟨e.blk, off, none⟩) ∧ off + v.cells.size ≤ arr.size ∧ notTup v = true ∧
    (∀ (j : Nat) (c c' : Value), v.cells[j]? = some c → arr[off + j]? = some c' → VR ρ c c') ∧ ∀ (j : Nat) (c c' : Value), v.cells[j]? = some c → arr[off + j]? = some c' → c'.oneCell' = true := by
  cases ha with
  | pp h1 h2 h3 h4 h5 h6 => cases hp; exact ⟨_, _, _, _, h1, h2, rfl, h3, h4, h5, h6⟩
  | _ => simp [ppOf] at hp
omit H in
theorem ps_inv {x x' : Value} {k : Nat} {els : List Value} (hp : psOf x = some (k, els)) (hx : VR ρ x x') : ∃ ca ccap, x' = .slice ca els.length ccap ∧ els.length ≤ ccap ∧ (clipOf x = true → ccap = els.length) ∧ ((els = [] ∧ (ca = none → ccap = 0)) ∨ ∃ B e arr off, ρ B = some e ∧ e.frz = some arr ∧ ca = some ⟨e.blk, off, none⟩ ∧ off + els.length * k ≤ arr.size ∧
    (∀ (i : Nat) (v : Value), els[i]? = some v → v.cells.size = k ∧ notTup v = true) ∧
    (∀ (i j : Nat) (v c c' : Value), els[i]? = some v → v.cells[j]? = some c → arr[off + i * k + j]? = some c' → VR ρ c c') ∧
    ∀ (i j : Nat) (v c c' : Value), els[i]? = some v → v.cells[j]? = some c → arr[off + i * k + j]? = some c' → c'.oneCell' = true) := by
  cases hx with
  | ps hcl h1 h2 h3 h4 h5 h6 h7 =>
    cases hp
    exact ⟨_, _, rfl, by simpa using h3, fun hx => hcl (by simp [clipOf] at hx; exact hx.1), .inr ⟨_, _, _, _, h1, h2, rfl, by simpa using h4, fun i v hi => h5 i v (by simpa using hi), fun i j v c c' hi => h6 i j v c c' (by simpa using hi), fun i j v c c' hi => h7 i j v c c' (by simpa using hi)⟩⟩
  | ps0 l k => cases hp; exact ⟨_, _, rfl, Nat.le_refl _, fun _ => rfl, .inl ⟨rfl, fun _ => rfl⟩⟩
  | ps1 l k a c hcl => cases hp; exact ⟨_, _, rfl, Nat.zero_le _, fun hx => hcl (by simp [clipOf] at hx; exact hx.1), .inl ⟨rfl, fun x => by cases x⟩⟩
  | _ => simp [psOf] at hp
omit H in
theorem ps_arr {l : Nat} {p q : Array Value} {k : Nat} {els : List Value} (hp : psOf (.func (.yield l) p q) = some (k, els)) : els = q.toList := by
  simp only [psOf] at hp
  split at hp
  · cases hp; rfl
  · cases hp
/-- What lies where no one turns it. -/
theorem frz_cells {B : Nat} {e : Ent} {arr : Array Value} {off : Nat} {v : Value} (he : ρ B = some e) (hf : e.frz = some arr) (hb : off + v.cells.size ≤ arr.size)
    (hv : ∀ (j : Nat) (c c' : Value), v.cells[j]? = some c → arr[off + j]? = some c' → VR ρ c c') (h1 : ∀ (j : Nat) (c c' : Value), v.cells[j]? = some c → arr[off + j]? = some c' → c'.oneCell' = true) :
    ∃ l', CL ρ v.cells.toList l' ∧ ∀ j c, l'[j]? = some c → w.cell? ⟨e.blk, off + j, none⟩ = some c := by
  obtain ⟨⟨t, fz, hh⟩, _⟩ := H.frz B e arr he hf
  refine ⟨(arr.toList.drop off).take v.cells.size, ⟨by simp; omega, fun i x y hx hy => ?_⟩, fun j c hj => ?_⟩
  · rw [List.getElem?_take] at hy
    split at hy
    · rw [List.getElem?_drop, Array.getElem?_toList] at hy
      rw [Array.getElem?_toList] at hx
      exact ⟨hv i x y hx hy, h1 i x y hx hy⟩
    · cases hy
  · rw [List.getElem?_take] at hj
    split at hj
    · rw [List.getElem?_drop, Array.getElem?_toList] at hj
      simp only [World.cell?, hh, Option.isSome_none, Bool.false_eq_true, if_false]
      exact hj
    · cases hj
include hT
theorem load_sound {t : TypeId} {a v a' : Value} (hl : aLoad T h t a = some v) (ha : VR ρ a a') : ∃ v', (Instr.loadAt t a').run P w = .ok v' w ∧ VR ρ v v' := by
  unfold aLoad at hl
  split at hl
  · rename_i i a hi
    obtain ⟨e, he, hs, rfl⟩ := ptr_inv ha
    have s := tsp hT hi
    split at hl
    · rename_i hag
      cases hc : h.cells a i.size with
      | none => rw [hc] at hl; cases hl
      | some l =>
        rw [hc] at hl; cases hl
        obtain ⟨l', hR, hn, hcell⟩ := cells_spec H hc he
        refine ⟨.agg l'.toArray, ?_, VR.agg_iff.2 (by simpa using hR)⟩
        have := run_loadCells_list (P := P) w ⟨e.blk, e.off + a.off, none⟩ l' (fun j v hj => by rw [add_none]; exact hcell j v hj)
        rw [← hR.1, hn] at this
        simp [Instr.loadAt, Instr.sureAddr, loadVar, s.isAgg, hag, s.sizeOf, this]
    · rename_i hag
      obtain ⟨v', hv, hc⟩ := cell_spec H hl he
      refine ⟨v', ?_, hv.1⟩
      simp [Instr.loadAt, Instr.sureAddr, loadVar, s.isAgg, hag, hc]
  · rename_i _ i hi _
    have s := tsp hT hi
    split at hl
    · rename_i cs hp
      split at hl
      · rename_i hag
        cases hl
        obtain ⟨B, e, arr, off, he, hf, rfl, hb, hn, hv, h1⟩ := pp_inv hp ha
        obtain ⟨l', hR, hcell⟩ := frz_cells H he hf hb hv h1
        refine ⟨.agg l'.toArray, ?_, VR.agg_iff.2 (by simpa [Value.cells] using hR)⟩
        have := run_loadCells_list (P := P) w ⟨e.blk, off, none⟩ l' (fun j v hj => by rw [add_none]; exact hcell j v hj)
        have hl' : l'.length = i.size := by rw [← hR.1, ← hag.2]; simp [Value.cells]
        rw [hl'] at this
        simp [Instr.loadAt, Instr.sureAddr, loadVar, s.isAgg, hag.1, s.sizeOf, this]
      · cases hl
    · rename_i v hno hp
      split at hl
      · rename_i hag
        cases hl
        obtain ⟨B, e, arr, off, he, hf, rfl, hb, hn, hv, h1⟩ := pp_inv hp ha
        obtain ⟨l', hR, hcell⟩ := frz_cells H he hf hb hv h1
        have hcs : v.cells = #[v] := by
          have := hag.2
          cases v <;> first | rfl | simp [oneCellV] at this
        rw [hcs] at hR
        obtain ⟨v', r, rfl, hvv, _⟩ := hR.cons_left
        refine ⟨v', ?_, hvv.1⟩
        have := hcell 0 v' rfl
        simp only [Nat.add_zero] at this
        simp [Instr.loadAt, Instr.sureAddr, loadVar, s.isAgg, hag.1, this]
      · cases hl
    · cases hl
  · cases hl
end

/-! ### stores -/
theorem getElem?_putAt (vs : List Value) : ∀ (l : List Value) (i j : Nat), (putAt l i vs)[j]? = if i ≤ j ∧ j < i + vs.length ∧ j < l.length then vs[j - i]? else l[j]? := by
  induction vs with
  | nil => intro l i j; simp [putAt]; omega
  | cons v r ih =>
    intro l i j
    simp only [putAt, ih, List.length_set, List.length_cons, List.getElem?_set]
    by_cases e : i = j
    · subst e
      by_cases hl : i < l.length
      · rw [if_neg (by omega), if_pos rfl, if_pos hl, if_pos (by omega)]; simp
      · rw [if_neg (by omega), if_pos rfl, if_neg hl, if_neg (by omega)]; rw [List.getElem?_eq_none (by omega)]
    · by_cases hc : i + 1 ≤ j ∧ j < i + 1 + r.length ∧ j < l.length
      · rw [if_pos hc, if_pos (by omega)]
        have : j - i = (j - (i + 1)) + 1 := by omega
        rw [this]; rfl
      · rw [if_neg hc, if_neg e, if_neg (by omega)]
theorem length_putAt (vs : List Value) : ∀ (l : List Value) (i : Nat), (putAt l i vs).length = l.length := by
  induction vs with
  | nil => intro l i; rfl
  | cons v r ih => intro l i; simp [putAt, ih]
theorem run_storeCells {P : Program} (vs : List Value) : ∀ (w : World) (b o i : Nat) (arr : Array Value) (t : TypeId), w.heap[b]? = some (.cells arr t (0, 0)) → o + i + vs.length ≤ arr.size → (∀ v ∈ vs, v.oneCell' = true) →
    ∃ w' arr', (storeCells ⟨b, o, none⟩ vs i).run P w = .ok () w' ∧ w'.heap[b]? = some (.cells arr' t (0, 0)) ∧ arr'.toList = putAt arr.toList (o + i) vs ∧ w'.heap.size = w.heap.size ∧ w'.os = w.os ∧ w'.tape = w.tape ∧ w'.output = w.output ∧
      ∀ k, k ≠ b → w'.heap[k]? = w.heap[k]? := by
  induction vs with
  | nil => intro w b o i arr t hb hl _; exact ⟨w, arr, by simp [storeCells], hb, rfl, rfl, rfl, rfl, rfl, fun _ _ => rfl⟩
  | cons v r ih =>
    intro w b o i arr t hb hl hone
    have hcell : w.cell? ⟨b, o + i, none⟩ = some (arr[o + i]'(by simp at hl; omega)) := by
      simp only [World.cell?, hb, Option.isSome_none, Bool.false_eq_true, if_false]
      exact Array.getElem?_eq_getElem _
    have hfz : w.frozen? ⟨b, o + i, none⟩ = false := by simp [World.frozen?, hb]
    have hb1 : (w.setCell ⟨b, o + i, none⟩ v).heap[b]? = some (.cells (arr.setIfInBounds (o + i) v) t (0, 0)) := by
      simp [World.setCell, Array.getElem?_modify, hb]
    obtain ⟨w', arr', h1, h2, h3, h4, h5, h6, h7, h8⟩ := ih (w.setCell ⟨b, o + i, none⟩ v) b o (i + 1) (arr.setIfInBounds (o + i) v) t hb1 (by simp at hl ⊢; omega) (fun u hu => hone u (List.mem_cons_of_mem _ hu))
    refine ⟨w', arr', ?_, h2, ?_, by rw [h4]; simp, h5, h6, h7, fun k hk => (h8 k hk).trans (Below.heap_setCell _ _ _ _ hk)⟩
    · simp only [storeCells, Sem.run_bind, add_none, run_store P w _ v .plain (hone v (List.mem_cons_self ..)), hcell, hfz]
      simpa using h1
    · rw [h3]; simp [putAt, Nat.add_assoc]
section
variable {okc : Nat → Code → XC → Prop} {P : Program} {T : Tab} {ρ : Ren} {h : AH} {w : World}
variable (H : HR okc ρ h w)
include H
theorem put_spec {a : Addr} {vs vs' : List Value} {h' : AH} {e : Ent} (hs : h.store a vs = some h') (he : ρ a.block = some e) (hv : CL ρ vs vs') :
    ∃ w', (storeCells ⟨e.blk, e.off + a.off, none⟩ vs').run P w = .ok () w' ∧ HR okc ρ h' w' ∧ Ext ρ h w ρ h' w' := by
  unfold AH.store at hs
  split at hs
  · rename_i cs sz hg
    split at hs
    · cases hs
    · split at hs
      · rename_i hle
        cases hs
        rcases H.obj _ _ _ hg he with x | hor
        · cases x
        · skip
          obtain ⟨h1, h2, arr, t, fz, hh, ht, hf, hvc, hl⟩ := hor
          obtain rfl := hf rfl
          have hlen : vs.length = vs'.length := hv.1
          obtain ⟨w', arr', r1, r2, r3, r4, r5, r6, r7, r8⟩ := run_storeCells (P := P) vs' w e.blk (e.off + a.off) 0 arr t hh (by omega) (fun v hv' => by
            obtain ⟨i, hi⟩ := List.getElem?_of_mem hv'
            have hi' : i < vs.length := by rw [hlen]; exact (List.getElem?_eq_some_iff.1 hi).1
            exact (hv.2 i _ v (List.getElem?_eq_getElem hi') hi).2)
          have hsz : arr'.size = arr.size := by
            have := congrArg List.length r3
            rw [length_putAt] at this
            simpa using this
          have hU := H.upd hg (o' := .row (putAt cs a.off vs) true sz) rfl he rfl r4 r5 r6 r7 r8 (by
            refine ⟨h1, h2, arr', t, (0, 0), r2, by rw [hsz, ht], fun _ => rfl, ?_, by rw [length_putAt, hsz]; exact hl⟩
            rw [r3, length_putAt]
            refine ⟨?_, fun i x y hx hy => ?_⟩
            · simp [length_putAt]; omega
            · rw [List.getElem?_take] at hy
              split at hy
              · rename_i hi
                rw [List.getElem?_drop, getElem?_putAt] at hy
                rw [getElem?_putAt] at hx
                by_cases hc : a.off ≤ i ∧ i < a.off + vs.length ∧ i < cs.length
                · rw [if_pos hc] at hx
                  rw [if_pos (by simp; omega)] at hy
                  have e1 : e.off + i - (e.off + a.off + 0) = i - a.off := by omega
                  rw [e1] at hy
                  exact hv.2 _ x y hx hy
                · rw [if_neg hc] at hx
                  rw [if_neg (by simp; omega)] at hy
                  refine hvc.2 i x y hx ?_
                  rw [List.getElem?_take, if_pos hi, List.getElem?_drop]; exact hy
              · cases hy)
          exact ⟨w', r1, hU⟩
      · cases hs
  · cases hs
theorem store_sound (hT : ∀ t i, T t = some i → tabOf P t = some i) {t : TypeId} {a v a' v' : Value} {h' : AH} (hl : aStore T h t a v = some h') (ha : VR ρ a a') (hv : VR ρ v v') :
    ∃ w', (Instr.storeAt t a' v').run P w = .ok () w' ∧ HR okc ρ h' w' ∧ Ext ρ h w ρ h' w' := by
  unfold aStore at hl
  split at hl
  · rename_i i a hi
    obtain ⟨e, he, hs, rfl⟩ := ptr_inv ha
    have s := tsp hT hi
    split at hl
    · rename_i hc
      obtain ⟨w', h1, h2⟩ := put_spec (P := P) H hl he (hv.cells hc.2)
      refine ⟨w', ?_, h2⟩
      have e1 : v'.cells.size = i.size := by rw [← hv.cells_size]; exact hc.1
      simp [Instr.storeAt, Instr.sureAddr, storeVar, s.sizeOf, e1, h1]
    · cases hl
  · cases hl
/-- A new row. -/
theorem new_spec (cs cs' : List Value) (arr : Array Value) (t : TypeId) (sz : Nat) (hc : CL ρ cs cs') (harr : arr.toList.take cs.length = cs') :
    HR okc (ρ.add h.n ⟨w.heap.size, 0, arr.size, sz, true, none⟩) (h.push (.row cs true sz)) (w.alloc (.cells arr t)) ∧
    Ext ρ h w (ρ.add h.n ⟨w.heap.size, 0, arr.size, sz, true, none⟩) (h.push (.row cs true sz)) (w.alloc (.cells arr t)) := by
  refine H.push (.cells arr t) (.row cs true sz) ⟨w.heap.size, 0, arr.size, sz, true, none⟩ rfl rfl ?_
  refine ⟨rfl, rfl, arr, t, (0, 0), heap_alloc_at w _, rfl, fun _ => rfl, ?_, ?_⟩
  · simp only [List.drop_zero, harr]
    exact hc.mono fun _ _ x => x.mono (H.sub_add _)
  · have := congrArg List.length harr
    rw [← hc.1] at this
    simp at this ⊢
    omega
end
end Go.AI
