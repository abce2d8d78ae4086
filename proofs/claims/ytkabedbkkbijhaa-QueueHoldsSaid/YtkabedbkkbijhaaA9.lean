/-
  EACH OPERATION OF THE INTERPRETER AGAINST THE MODEL'S: addresses, parts, maps; all together. (Own work.)
-/
import Derived.Test.YtkabedbkkbijhaaA8
namespace Go.AI
open Go.RowKit

section
variable {okc : Nat → Code → XC → Prop} {P : Program} {T : Tab} {ρ : Ren} {h : AH} {w : World}
theorem places_size0 (w : World) (a : Addr) (f : Field) {g : TI} (s : TabSpec P f.type g) (h0 : g.size ≠ 0) : (fieldPlace a f).run P w = .ok (a.add f.offset) w := by
  simp [fieldPlace, s.sizeOf, h0]
variable (hT : ∀ t i, T t = some i → tabOf P t = some i)
include hT
theorem partOf_sound {t : TypeId} {g : TI} (hg : T t = some g) {cs cs' : Array Value} {off : Nat} {v : Value} (hl : partOf g cs off = some v) (hc : CL ρ cs.toList cs'.toList) (w : World) :
    ∃ v', (part t cs' off).run P w = .ok v' w ∧ VR ρ v v' := by
  have s := tsp hT hg
  unfold partOf at hl
  split at hl
  · rename_i ha
    cases hl
    refine ⟨.agg (cs'.extract off (off + g.size)), by simp [part, s.isAgg, ha, s.sizeOf], VR.agg_iff.2 ?_⟩
    simp only [Array.toList_extract, List.extract_eq_take_drop]
    exact (hc.drop off).take _
  · rename_i ha
    obtain ⟨v', hv', hR⟩ := hc.get (by simpa using hl : cs.toList[off]? = some v)
    exact ⟨v', run_part t cs' off v' s (by simpa using ha) (by simpa using hv') w, hR.1⟩
theorem fieldAddr_sound {t : TypeId} {x x' v : Value} {f : Nat} (hl : aFieldAddr T t x f = some v) (hx : VR ρ x x') (w : World) : ∃ v', (Instr.fieldAt t x' f).run P w = .ok v' w ∧ VR ρ v v' := by
  unfold aFieldAddr at hl
  split at hl
  · rename_i i a hi
    obtain ⟨d, hd, hud⟩ := und (tsp hT hi)
    obtain ⟨e, he, hs, rfl⟩ := ptr_inv hx
    split at hl
    · rename_i fs hfs
      rw [hud] at hfs
      obtain ⟨gs, rfl, rfl⟩ := udOf_struct hfs.symm
      cases hf : gs[f]? with
      | none => simp [hf] at hl
      | some y =>
        simp only [List.getElem?_map, Array.getElem?_toList, hf, Option.map_some, Option.bind_some] at hl
        cases hg : T y.type with
        | none => rw [hg] at hl; cases hl
        | some g =>
          rw [hg] at hl
          simp only [Option.bind_some] at hl
          split at hl
          · cases hl
          · rename_i h0
            cases hl
            refine ⟨.pointer (some ((⟨e.blk, e.off + a.off, none⟩ : Addr).add y.offset)), by simp only [Instr.fieldAt, Sem.run_bind, run_underlying hd, Result.andThen_ok, hf, Instr.sureAddr, Sem.run_pure, places_size0 w _ y (tsp hT hg) h0], ?_⟩
            obtain ⟨B, off, sp⟩ := a
            simp only at hs he
            subst hs
            rw [add_none, add_none, Nat.add_assoc]
            exact .ptr he
    · cases hl
  · rename_i _ i hi _
    obtain ⟨d, hd, hud⟩ := und (tsp hT hi)
    split at hl
    · rename_i cs fs hp hfs
      rw [hud] at hfs
      obtain ⟨gs, rfl, rfl⟩ := udOf_struct hfs.symm
      obtain ⟨B, e, arr, off, he, hfz, rfl, hb, hn, hv, h1⟩ := pp_inv hp hx
      cases hf : gs[f]? with
      | none => simp [hf] at hl
      | some y =>
        simp only [List.getElem?_map, Array.getElem?_toList, hf, Option.map_some, Option.bind_some] at hl
        cases hg : T y.type with
        | none => rw [hg] at hl; cases hl
        | some g =>
          rw [hg] at hl
          simp only [Option.bind_some] at hl
          split at hl
          · cases hl
          · rename_i h0
            simp only [not_or, Nat.not_lt] at h0
            have hcs : (Value.agg cs).cells = cs := rfl
            rw [hcs] at hb hv h1
            cases hpt : partOf g cs y.offset with
            | none => rw [hpt] at hl; cases hl
            | some u =>
              rw [hpt] at hl
              cases hl
              refine ⟨.pointer (some ((⟨e.blk, off, none⟩ : Addr).add y.offset)), by simp only [Instr.fieldAt, Sem.run_bind, run_underlying hd, Result.andThen_ok, hf, Instr.sureAddr, Sem.run_pure, places_size0 w _ y (tsp hT hg) h0.1], ?_⟩
              rw [add_none]
              unfold partOf at hpt
              split at hpt
              · cases hpt
                have hce : ∀ (j : Nat) (c : Value), (Value.agg (cs.extract y.offset (y.offset + g.size))).cells[j]? = some c → cs[y.offset + j]? = some c := by
                  intro j c hj
                  have hj : (cs.extract y.offset (y.offset + g.size))[j]? = some c := hj
                  rw [Array.getElem?_extract] at hj
                  split at hj
                  · exact hj
                  · cases hj
                refine .pp he hfz ?_ rfl (fun j c c' hj hc => hv _ c c' (hce j c hj) (by rw [← hc, Nat.add_assoc])) (fun j c c' hj hc => h1 _ c c' (hce j c hj) (by rw [← hc, Nat.add_assoc]))
                show off + y.offset + (cs.extract y.offset (y.offset + g.size)).size ≤ arr.size
                simp; omega
              · have hlt := (Array.getElem?_eq_some_iff.1 hpt).1
                have hex : ∃ u', arr[off + y.offset]? = some u' := ⟨_, Array.getElem?_eq_getElem (by omega)⟩
                obtain ⟨u', hu'⟩ := hex
                have hvu := hv _ u u' hpt hu'
                have hone := h1 _ u u' hpt hu'
                rw [← hvu.one] at hone
                have huc : u.cells = #[u] := by cases u <;> first | rfl | simp [Value.oneCell'] at hone
                have hnt : notTup u = true := by cases u <;> first | rfl | simp [Value.oneCell'] at hone
                refine .pp he hfz (by rw [huc]; simp; omega) hnt (fun j c c' hj hc => ?_) (fun j c c' hj hc => ?_)
                · rw [huc] at hj
                  cases j with
                  | zero => simp at hj; subst hj; exact hv _ u c' hpt (by simpa using hc)
                  | succ j => simp at hj
                · rw [huc] at hj
                  cases j with
                  | zero => simp at hj; subst hj; exact h1 _ u c' hpt (by simpa using hc)
                  | succ j => simp at hj
    · cases hl
  · cases hl
theorem field_sound {t : TypeId} {x x' v : Value} {f : Nat} (hl : aField T t x f = some v) (hx : VR ρ x x') (w : World) : ∃ v', (Instr.field t x' f).run P w = .ok v' w ∧ VR ρ v v' := by
  unfold aField at hl
  split at hl
  · rename_i i cs hi
    obtain ⟨d, hd, hud⟩ := und (tsp hT hi)
    obtain ⟨cs', rfl⟩ : ∃ z, x' = .agg z := by cases hx; exact ⟨_, rfl⟩
    split at hl
    · rename_i fs hfs
      rw [hud] at hfs
      obtain ⟨gs, rfl, rfl⟩ := udOf_struct hfs.symm
      cases hf : gs[f]? with
      | none => simp [hf] at hl
      | some y =>
        simp only [List.getElem?_map, Array.getElem?_toList, hf, Option.map_some, Option.bind_some] at hl
        cases hg : T y.type with
        | none => rw [hg] at hl; cases hl
        | some g =>
          rw [hg] at hl
          simp only [Option.bind_some] at hl
          obtain ⟨v', hr, hv⟩ := partOf_sound (P := P) hT hg hl (VR.agg_iff.1 hx) w
          exact ⟨v', by simp [Instr.field, run_underlying hd, hf, asAgg, hr], hv⟩
    · cases hl
  · cases hl
theorem indexAddr_sound {t : TypeId} {x x' ix ix' v : Value} (hl : aIndexAddr T t x ix = some v) (hx : VR ρ x x') (hi : VR ρ ix ix') (w : World) : ∃ v', (Instr.indexAt t x' ix').run P w = .ok v' w ∧ VR ρ v v' := by
  unfold aIndexAddr at hl
  split at hl
  · rename_i i k n hi0
    obtain ⟨d, hd, hud⟩ := und (tsp hT hi0)
    obtain rfl := int_inv hi
    split at hl
    · rename_i len e a hu
      rw [hud] at hu
      obtain rfl := udOf_array hu.symm
      cases hg : T e with
      | none => rw [hg] at hl; cases hl
      | some g =>
        rw [hg] at hl
        simp only [Option.bind_some] at hl
        split at hl
        · rename_i hc
          cases hl
          obtain ⟨en, he, hs, rfl⟩ := ptr_inv hx
          obtain ⟨B, off, sp⟩ := a
          simp only at hs he
          subst hs
          refine ⟨.pointer (some ((⟨en.blk, en.off + off, none⟩ : Addr).add (n.toNat * g.size))), by simp only [Instr.indexAt, asIntOf, Instr.sureAddr, Sem.run_bind, run_underlying hd, Result.andThen_ok, Sem.run_pure, if_pos hc, (tsp hT hg).sizeOf], ?_⟩
          rw [add_none, add_none, Nat.add_assoc]
          exact .ptr he
        · cases hl
    · rename_i e a len c hu
      rw [hud] at hu
      obtain rfl := udOf_slice hu.symm
      cases hg : T e with
      | none => rw [hg] at hl; cases hl
      | some g =>
        rw [hg] at hl
        simp only [Option.bind_some] at hl
        split at hl
        · rename_i hc
          cases hl
          obtain ⟨en, ca, ccap, rfl, he, hadr0, hlen0, hcc, ha, hb⟩ := sl_inv hx
          obtain rfl : ca = ⟨en.blk, en.off + a.off, none⟩ := by
            rcases ha with h0 | h0
            · omega
            · exact h0
          refine ⟨.pointer (some ((⟨en.blk, en.off + a.off, none⟩ : Addr).add (n.toNat * g.size))), by simp only [Instr.indexAt, asIntOf, Sem.run_bind, run_underlying hd, Result.andThen_ok, Sem.run_pure, if_pos hc, (tsp hT hg).sizeOf], ?_⟩
          rw [hadr0, add_none, add_none, Nat.add_assoc]
          exact .ptr he
        · cases hl
    · rename_i e hu _
      rw [hud] at hu
      obtain rfl := udOf_slice hu.symm
      split at hl
      · rename_i g k els hg hps
        split at hl
        · rename_i hc
          obtain ⟨hn0, hn1, rfl⟩ := hc
          obtain ⟨ca, ccap, rfl, hlc, _, hcase⟩ := ps_inv hps hx
          obtain ⟨v0, hv0⟩ : ∃ v0, els[n.toNat]? = some v0 := ⟨_, List.getElem?_eq_getElem (by omega)⟩
          rw [hv0] at hl
          cases hl
          rcases hcase with ⟨rfl, _⟩ | ⟨B, en, arr, off, he, hf, rfl, hb, hk, hv, ho⟩
          · simp at hn1; omega
          refine ⟨.pointer (some ((⟨en.blk, off, none⟩ : Addr).add (n.toNat * g.size))), by simp only [Instr.indexAt, asIntOf, Sem.run_bind, run_underlying hd, Result.andThen_ok, Sem.run_pure, if_pos (And.intro hn0 hn1), (tsp hT hg).sizeOf], ?_⟩
          rw [add_none]
          obtain ⟨k1, k2⟩ := hk _ _ hv0
          refine .pp he hf ?_ k2 (fun j c c' hj hc => hv _ j _ c c' hv0 hj hc) (fun j c c' hj hc => ho _ j _ c c' hv0 hj hc)
          have : (n.toNat + 1) * g.size ≤ els.length * g.size := Nat.mul_le_mul_right _ (by omega)
          rw [Nat.add_mul] at this
          rw [k1]; omega
        · cases hl
      · cases hl
    · cases hl
  · cases hl
theorem index_sound {t : TypeId} {x x' ix ix' v : Value} (hl : aIndex T t x ix = some v) (hx : VR ρ x x') (hi : VR ρ ix ix') (w : World) : ∃ v', (Instr.index t x' ix').run P w = .ok v' w ∧ VR ρ v v' := by
  unfold aIndex at hl
  split at hl
  · rename_i i k n hi0
    obtain ⟨d, hd, hud⟩ := und (tsp hT hi0)
    obtain rfl := int_inv hi
    split at hl
    · rename_i len e cs hu
      rw [hud] at hu
      obtain rfl := udOf_array hu.symm
      cases hg : T e with
      | none => rw [hg] at hl; cases hl
      | some g =>
        rw [hg] at hl
        simp only [Option.bind_some] at hl
        split at hl
        · rename_i hc
          obtain ⟨cs', rfl⟩ : ∃ z, x' = .agg z := by cases hx; exact ⟨_, rfl⟩
          obtain ⟨v', hr, hv⟩ := partOf_sound (P := P) hT hg hl (VR.agg_iff.1 hx) w
          exact ⟨v', by simp [Instr.index, asIntOf, run_underlying hd, hc, (tsp hT hg).sizeOf, hr], hv⟩
        · cases hl
    · rename_i s hu
      rw [hud] at hu
      obtain rfl := udOf_string hu.symm
      obtain rfl := string_inv hx
      split at hl
      · rename_i hc
        cases hb : s[n.toNat]? with
        | none => rw [hb] at hl; cases hl
        | some b =>
          rw [hb] at hl; cases hl
          exact ⟨_, by simp [Instr.index, asIntOf, run_underlying hd, hc, hb], .int _ _⟩
      · cases hl
    · cases hl
  · cases hl
omit hT
/-! ### maps -/
theorem sameBits_int (d : Nat) (j k : IntKind) (a b : Int) : Instr.sameBits d (.int j a) (.int k b) = (j == k && a == b) := by cases d <;> rfl
theorem sameBits_string (d : Nat) (a b : ByteArray) : Instr.sameBits d (.string a) (.string b) = (a == b) := by cases d <;> rfl
theorem sameBits_bool (d : Nat) (a b : Bool) : Instr.sameBits d (.bool a) (.bool b) = (a == b) := by cases d <;> rfl
theorem bytes_of_beq {a b : ByteArray} (h : (a == b) = true) : a = b := by
  rw [beq_toListBytes, ByteArray.toList_eq, ByteArray.toList_eq] at h
  have h' := eq_of_beq h
  obtain ⟨⟨x⟩⟩ := a
  obtain ⟨⟨y⟩⟩ := b
  simp at h'
  rw [h']
theorem keyEq_sound {d : TypeDesc} {k x k' x' : Value} {b : Bool} (hl : keyEq (udOf d) k x = some b) (hk : VR ρ k k') (hx : VR ρ x x') : Instr.sameNow d k' x' = some b ∧ (b = true → k' = x' ∧ Instr.sameBits 10000 x' k' = true) := by
  generalize hu : udOf d = u at hl
  unfold keyEq at hl
  split at hl
  · obtain rfl := udOf_int hu.symm
    rw [int_inv hk, int_inv hx]
    split at hl
    · rename_i h0; cases hl; subst h0
      exact ⟨by simp [Instr.sameNow], fun hb => by have := eq_of_beq hb; subst this; exact ⟨rfl, by simp [sameBits_int]⟩⟩
    · cases hl
  · obtain rfl := udOf_string hu.symm
    rw [string_inv hk, string_inv hx]
    cases hl
    exact ⟨by simp [Instr.sameNow], fun hb => by have := bytes_of_beq hb; subst this; exact ⟨rfl, by rw [sameBits_string]; exact hb⟩⟩
  · obtain rfl := udOf_bool hu.symm
    rw [bool_inv hk, bool_inv hx]
    cases hl
    exact ⟨by simp [Instr.sameNow], fun hb => by have := eq_of_beq hb; subst this; exact ⟨rfl, by simp [sameBits_bool]⟩⟩
  · cases hl
abbrev ML (ρ : Ren) : List (Value × Value) → List MapEntry → Prop := L2 fun x y => VR ρ x.1 y.key ∧ VR ρ x.2 y.val
theorem find_sound {d : TypeDesc} {k k' : Value} (hk : VR ρ k k') : ∀ (es : List (Value × Value)) (ces : List MapEntry) (i : Nat) (r : Option (Nat × Value)), ML ρ es ces → aFind (udOf d) k es i = some r →
    match r with
    | none => Instr.findNow d k' ces i = some none
    | some (j, v) => ∃ v', Instr.findNow d k' ces i = some (some (j, v')) ∧ VR ρ v v' ∧ i ≤ j ∧ ∃ e, ces[j - i]? = some e ∧ e.key = k' ∧ Instr.sameBits 10000 e.key k' = true
  | [], ces, i, r, hm, hl => by
    rw [hm.nil_left]
    simp only [aFind] at hl
    cases hl
    simp [Instr.findNow]
  | e :: es, ces, i, r, hm, hl => by
    obtain ⟨c, ces', rfl, ⟨h1, h2⟩, hm'⟩ := hm.cons_left
    simp only [aFind] at hl
    split at hl
    · rename_i hq
      cases hl
      obtain ⟨q1, q2⟩ := keyEq_sound hq hk h1
      obtain ⟨q3, q4⟩ := q2 rfl
      exact ⟨c.val, by simp [Instr.findNow, q1], h2, Nat.le_refl _, c, by simp, q3.symm, q4⟩
    · rename_i hq
      obtain ⟨q1, _⟩ := keyEq_sound hq hk h1
      have ih := find_sound hk es ces' (i + 1) r hm' hl
      cases r with
      | none => simp only at ih ⊢; simp [Instr.findNow, q1, ih]
      | some jv =>
        obtain ⟨j, v⟩ := jv
        simp only at ih ⊢
        obtain ⟨v', a1, a2, a3, e', a4, a5⟩ := ih
        refine ⟨v', by simp [Instr.findNow, q1, a1], a2, by omega, e', ?_, a5⟩
        have : j - i = (j - (i + 1)) + 1 := by omega
        rw [this]; simpa using a4
    · cases hl
theorem checkKey_prim' {t : TypeId} {d : TypeDesc} (hd : P.underlying t = some d) (hp : primUD (udOf d) = true) (b : Bool) (n : Nat) (k : Value) (w : World) : (Instr.checkKey b (n + 1) t k).run P w = .ok () w := by
  cases d <;> simp_all [udOf, primUD] <;> cases k <;> simp [Instr.checkKey, run_underlying hd]
theorem checkKey_prim {t : TypeId} {d : TypeDesc} (hd : P.underlying t = some d) (hp : primUD (udOf d) = true) (b : Bool) (k : Value) (w : World) : (Instr.checkKey b 10000 t k).run P w = .ok () w :=
  checkKey_prim' hd hp b 9999 k w
theorem map_spec (H : HR okc ρ h w) {B : Nat} {es : List (Value × Value)} {bs : List Nat} {clock : Nat} (hg : h.get B = some (.map es bs clock)) {m' : Value} (hm : VR ρ (.map (some B)) m') :
    ∃ e ces, ρ B = some e ∧ m' = .map (some e.blk) ∧ e.rw = true ∧ w.heap[e.blk]? = some (.map ces clock) ∧ ML ρ es ces.toList ∧ ces.toList.map (·.born) = bs ∧ bs.Nodup ∧ ∀ b ∈ bs, b < clock := by
  cases hm with
  | map he =>
    rename_i e
    rcases H.obj _ _ _ hg he with x | hor
    · cases x
    · skip
      obtain ⟨h1, ces, h2, h3, h4, h5, h6⟩ := hor
      exact ⟨e, ces, he, rfl, h1, h2, h3, h4, h5, h6⟩
theorem run_getMap {r : Nat} {ces : Array MapEntry} {clock : Nat} (hh : w.heap[r]? = some (.map ces clock)) : (getObj r).run P w = .ok (.map ces clock) w := by
  simp [getObj, Sem.run, hh]
theorem run_findKey {t : TypeId} {d : TypeDesc} (hd : P.underlying t = some d) {k : Value} {es : List MapEntry} {r : Option (Nat × Value)} (hf : Instr.findNow d k es 0 = some r) (w : World) : (Instr.findKey t k es).run P w = .ok r w := by
  simp [Instr.findKey, run_underlying hd, hf]
include hT
theorem lookup_sound (H : HR okc ρ h w) {t : TypeId} {m m' k k' v : Value} {ok : Bool} (hl : aLookup T h t m k ok = some v) (hm : VR ρ m m') (hk : VR ρ k k') :
    ∃ v', (Instr.lookup t m' k' ok).run P w = .ok v' w ∧ VR ρ v v' := by
  unfold aLookup at hl
  split at hl
  · rename_i i hi
    obtain ⟨d, hd, hud⟩ := und (tsp hT hi)
    split at hl
    · rename_i kt e hu
      rw [hud] at hu
      obtain rfl := udOf_map hu.symm
      split at hl
      · rename_i ki g es hki hg hes
        have sg := tsp hT hg
        obtain ⟨dk, hdk, hudk⟩ := und (tsp hT hki)
        split at hl
        · rename_i hp
          rw [hudk] at hp hl
          -- the entries
          obtain ⟨ces, hrun, hML⟩ : ∃ ces : Array MapEntry, ((m' = .map none ∧ ces = #[]) ∨ ∃ r clock, m' = .map (some r) ∧ w.heap[r]? = some (.map ces clock)) ∧ ML ρ es ces.toList := by
            unfold entriesOf at hes
            split at hes
            · cases hes; cases hm; exact ⟨#[], .inl ⟨rfl, rfl⟩, .nil⟩
            · split at hes
              · rename_i hget
                cases hes
                obtain ⟨en, ces, _, rfl, _, hh, hml, _, _⟩ := map_spec H hget hm
                exact ⟨ces, .inr ⟨_, _, rfl, hh⟩, hml⟩
              · cases hes
            · cases hes
          have hck := fun b => checkKey_prim (P := P) hdk hp b k' w
          have key : ∀ (r : Option (Nat × Value)), Instr.findNow dk k' ces.toList 0 = some r → (Instr.lookup t m' k' ok).run P w = ((match r with
              | some (_, v) => pure (v, true)
              | none => do pure (← zeroValue e, false) : Sem (Value × Bool)).run P w).andThen fun vb w' => .ok (if ok then .tuple #[vb.1, .bool vb.2] else vb.1) w' := by
            intro r hr
            have hfk := run_findKey (P := P) hdk hr w
            rcases hrun with ⟨rfl, rfl⟩ | ⟨r0, clock, rfl, hh⟩
            · cases r with
              | none => simp [Instr.lookup, run_underlying hd, sg.zeroValue, hck, hfk]
              | some p => obtain ⟨_, _⟩ := p; simp [Instr.lookup, run_underlying hd, hck, hfk]
            · cases r with
              | none => simp [Instr.lookup, run_underlying hd, run_getMap hh, sg.zeroValue, hck, hfk]
              | some p => obtain ⟨_, _⟩ := p; simp [Instr.lookup, run_underlying hd, run_getMap hh, hck, hfk]
          cases hf : aFind (udOf dk) k es 0 with
          | none => rw [hf] at hl; cases hl
          | some r =>
            rw [hf] at hl
            have hs := find_sound hk es ces.toList 0 r hML hf
            cases r with
            | none =>
              simp only at hs hl
              cases hl
              refine ⟨_, by rw [key _ hs]; simp [sg.zeroValue]; rfl, ?_⟩
              have hz : VR ρ g.zero g.zero := .flat sg.flat
              cases ok
              · simpa using hz
              · exact VR.tuple_iff.2 (.cons hz (.cons (.bool false) .nil))
            | some jv =>
              obtain ⟨j, v0⟩ := jv
              simp only at hs hl
              obtain ⟨v', a1, a2, _⟩ := hs
              cases hl
              refine ⟨_, by rw [key _ a1]; simp; rfl, ?_⟩
              cases ok
              · simpa using a2
              · exact VR.tuple_iff.2 (.cons a2 (.cons (.bool true) .nil))
        · cases hl
      · cases hl
    · cases hl
  · cases hl
omit hT
theorem modify_sound {es : List (Value × Value)} {ces : List MapEntry} (hm : ML ρ es ces) (j : Nat) {v v' k' : Value} (hv : VR ρ v v') (hk : ∀ e, ces[j]? = some e → e.key = k') :
    ML ρ (es.modify j fun e => (e.1, v)) (ces.modify j fun e => { e with key := k', val := v' }) := by
  refine ⟨by simp [hm.1], fun i x y hx hy => ?_⟩
  rw [List.getElem?_modify] at hx hy
  cases ha : es[i]? with
  | none => rw [ha] at hx; cases hx
  | some a =>
    cases hb : ces[i]? with
    | none => rw [hb] at hy; cases hy
    | some b =>
      rw [ha] at hx; rw [hb] at hy
      have := hm.2 i a b ha hb
      by_cases e : j = i
      · subst e
        simp at hx hy
        subst hx; subst hy
        exact ⟨by dsimp only; rw [← hk b hb]; exact this.1, hv⟩
      · simp [e] at hx hy
        subst hx; subst hy
        exact this
theorem map_eraseIdx {α β : Type} (f : α → β) : ∀ (l : List α) (j : Nat), (l.eraseIdx j).map f = (l.map f).eraseIdx j
  | [], j => by simp
  | x :: l, 0 => by simp
  | x :: l, j + 1 => by simp [map_eraseIdx f l j]
theorem erase_sound {es : List (Value × Value)} {ces : List MapEntry} (hm : ML ρ es ces) (j : Nat) : ML ρ (es.eraseIdx j) (ces.eraseIdx j) := by
  refine ⟨by simp [List.length_eraseIdx, hm.1], fun i x y hx hy => ?_⟩
  rw [List.getElem?_eraseIdx] at hx hy
  split at hx
  · rename_i hi; rw [if_pos hi] at hy; exact hm.2 _ x y hx hy
  · rename_i hi; rw [if_neg hi] at hy; exact hm.2 _ x y hx hy
theorem setObj_map (H : HR okc ρ h w) {B : Nat} {es es' : List (Value × Value)} {bs bs' : List Nat} {e : Ent} {ces ces' : Array MapEntry} {clock clock' : Nat} (hg : h.get B = some (.map es bs clock)) (he : ρ B = some e) (hrw : e.rw = true) (hh : w.heap[e.blk]? = some (.map ces clock))
    (hM : ML ρ es' ces'.toList) (hbs : ces'.toList.map (·.born) = bs') (hn : bs'.Nodup) (hb : ∀ b ∈ bs', b < clock') :
    ∃ w', (setObj e.blk (.map ces' clock')).run P w = .ok () w' ∧ HR okc ρ (h.set B (.map es' bs' clock')) w' ∧ Ext ρ h w ρ (h.set B (.map es' bs' clock')) w' := by
  have hlt : e.blk < w.heap.size := H.lt B e he
  refine ⟨{ w with heap := w.heap.setIfInBounds e.blk (.map ces' clock') }, by simp [setObj, Sem.run, hh], ?_⟩
  refine H.upd hg rfl he rfl (by simp) rfl rfl rfl (fun k hk => by simp [Ne.symm hk]) ⟨hrw, ces', ?_, hM, hbs, hn, hb⟩
  simp [hlt]
include hT
theorem mapUpdate_sound (H : HR okc ρ h w) {t : TypeId} {m m' k k' v v' : Value} {h' : AH} (hl : aMapUpdate T h t m k v = some h') (hm : VR ρ m m') (hk : VR ρ k k') (hv : VR ρ v v') :
    GotU okc P ρ h w (Instr.mapUpdate t m' k' v') h' := by
  unfold aMapUpdate at hl
  split at hl
  · rename_i i B hi
    obtain ⟨d, hd, hud⟩ := und (tsp hT hi)
    split at hl
    · rename_i kt e es bs clock hu hg
      rw [hud] at hu
      obtain rfl := udOf_map hu.symm
      split at hl
      · rename_i ki hki
        obtain ⟨dk, hdk, hudk⟩ := und (tsp hT hki)
        split at hl
        · rename_i hp
          rw [hudk] at hp hl
          obtain ⟨en, ces, he, rfl, hrw, hh, hml, hbe, hnd, hbo⟩ := map_spec H hg hm
          have hck := fun b => checkKey_prim (P := P) hdk hp b k' w
          cases hf : aFind (udOf dk) k es 0 with
          | none => rw [hf] at hl; cases hl
          | some r =>
            rw [hf] at hl
            have hs := find_sound hk es ces.toList 0 r hml hf
            cases r with
            | none =>
              simp only at hs hl
              cases hl
              have hfk := run_findKey (P := P) hdk hs w
              obtain ⟨w', r1, r2, r3⟩ := setObj_map (P := P) (es' := es ++ [(k, v)]) (ces' := ces.push { key := k', val := v', born := clock }) (clock' := clock + 1) H hg he hrw hh (by
                rw [Array.toList_push]
                exact hml.append (.cons ⟨hk, hv⟩ .nil)) (bs' := bs ++ [clock]) (by
                rw [Array.toList_push, List.map_append, hbe]
                rfl) (by
                refine List.nodup_append.2 ⟨hnd, by simp, ?_⟩
                intro a ha b hb
                simp at hb; subst hb
                have := hbo a ha
                omega) (by
                intro y hy
                rcases List.mem_append.1 hy with hy | hy
                · have := hbo y hy; omega
                · simp at hy; subst hy; simp)
              exact ⟨ρ, w', by simp only [Instr.mapUpdate, Sem.run_bind, run_underlying hd, Result.andThen_ok, run_getMap hh, hck, hfk, r1], r2, r3⟩
            | some jv =>
              obtain ⟨j, v0⟩ := jv
              simp only at hs hl
              obtain ⟨v1, a1, a2, _, ej, a4, a5, a6⟩ := hs
              cases hl
              have hfk := run_findKey (P := P) hdk a1 w
              have hj : ces[j]? = some ej := by simpa using a4
              obtain ⟨w', r1, r2, r3⟩ := setObj_map (P := P) (es' := es.modify j fun e => (e.1, v)) (ces' := ces.modify j fun e => { e with key := k', val := v' }) (clock' := clock) H hg he hrw hh (by
                rw [Array.toList_modify]
                exact modify_sound hml j hv fun e he' => by
                  have : e = ej := by rw [Array.getElem?_toList, hj] at he'; cases he'; rfl
                  rw [this]; exact a5) (bs' := bs) (by
                have : ((ces.modify j fun e => { e with key := k', val := v' }).toList.map (·.born)) = ces.toList.map (·.born) := by
                  rw [Array.toList_modify]
                  apply List.ext_getElem?
                  intro i
                  simp only [List.getElem?_map, List.getElem?_modify]
                  cases ces.toList[i]? with
                  | none => rfl
                  | some b => by_cases e : j = i <;> simp [e]
                rw [this]; exact hbe) hnd hbo
              refine ⟨ρ, w', ?_, r2, r3⟩
              have hks : (Instr.keyThatStays ((ces[j]?.map (·.key)).getD k') k').run P w = .ok k' w := by
                simp [Instr.keyThatStays, hj, a6]
              simp only [Instr.mapUpdate, Sem.run_bind, run_underlying hd, Result.andThen_ok, run_getMap hh, hck, hfk, hks, r1]
        · cases hl
      · cases hl
    · cases hl
  · cases hl
theorem delete_sound (H : HR okc ρ h w) {t kt2 ty : TypeId} {m m' k k' : Value} {h' : AH} (hl : aDelete T h t m k = some h') (hm : VR ρ m m') (hk : VR ρ k k') :
    Got okc P ρ h w (Builtin.delete_ #[t, kt2] ty #[m', k']) (.tuple #[]) h' := by
  have hundef : VR ρ (.tuple #[]) (.tuple #[]) := VR.tuple_iff.2 .nil
  unfold aDelete at hl
  split at hl
  · rename_i i B hi
    obtain ⟨d, hd, hud⟩ := und (tsp hT hi)
    split at hl
    · rename_i kt e es bs clock hu hg
      rw [hud] at hu
      obtain rfl := udOf_map hu.symm
      split at hl
      · rename_i ki hki
        obtain ⟨dk, hdk, hudk⟩ := und (tsp hT hki)
        split at hl
        · rename_i hp
          rw [hudk] at hp hl
          obtain ⟨en, ces, he, rfl, hrw, hh, hml, hbe, hnd, hbo⟩ := map_spec H hg hm
          have hck := fun b => checkKey_prim (P := P) hdk hp b k' w
          cases hf : aFind (udOf dk) k es 0 with
          | none => rw [hf] at hl; cases hl
          | some r =>
            rw [hf] at hl
            have hs := find_sound hk es ces.toList 0 r hml hf
            cases r with
            | none =>
              simp only at hs hl
              cases hl
              have hfk := run_findKey (P := P) hdk hs w
              have hset : (setObj en.blk (.map ces clock)).run P w = .ok () w := by
                have e1 : w.heap.setIfInBounds en.blk (.map ces clock) = w.heap := by
                  apply Array.ext_getElem?
                  intro i
                  rw [Array.getElem?_setIfInBounds]
                  by_cases e : en.blk = i
                  · subst e; rw [if_pos rfl, hh]; simp [H.lt B en he]
                  · rw [if_neg e]
                simp [setObj, Sem.run, hh, e1]
              exact ⟨ρ, _, w, by simp [Builtin.delete_, run_underlying hd, run_getMap hh, hck, hfk, hset], hundef, H, .refl _ _ _⟩
            | some jv =>
              obtain ⟨j, v0⟩ := jv
              simp only at hs hl
              obtain ⟨v1, a1, a2, _⟩ := hs
              cases hl
              have hfk := run_findKey (P := P) hdk a1 w
              have htl : (ces.eraseIdxIfInBounds j).toList = ces.toList.eraseIdx j := by
                unfold Array.eraseIdxIfInBounds
                split
                · simp
                · rename_i hj; rw [List.eraseIdx_of_length_le]; simpa using hj
              obtain ⟨w', r1, r2, r3⟩ := setObj_map (P := P) (es' := es.eraseIdx j) (ces' := ces.eraseIdxIfInBounds j) (clock' := clock) H hg he hrw hh (by rw [htl]; exact erase_sound hml j) (bs' := bs.eraseIdx j) (by
                rw [htl, ← hbe]
                exact map_eraseIdx _ _ _) (hnd.sublist (List.eraseIdx_sublist ..)) (fun y hy => hbo y ((List.eraseIdx_sublist ..).subset hy))
              exact ⟨ρ, _, w', by simp [Builtin.delete_, run_underlying hd, run_getMap hh, hck, hfk, r1], hundef, r2, r3⟩
        · cases hl
      · cases hl
    · cases hl
  · cases hl
theorem len_sound (H : HR okc ρ h w) {t ty : TypeId} {x x' v : Value} (hl : aLen T h t x = some v) (hx : VR ρ x x') : ∃ v', (Builtin.len_ #[t] ty #[x']).run P w = .ok v' w ∧ VR ρ v v' := by
  unfold aLen at hl
  split at hl
  · rename_i i hi
    obtain ⟨d, hd, hud⟩ := und (tsp hT hi)
    split at hl
    · rename_i s hu
      rw [hud] at hu; obtain rfl := udOf_string hu.symm
      cases hl; obtain rfl := string_inv hx
      exact ⟨_, by simp [Builtin.len_, run_underlying hd]; rfl, .int _ _⟩
    · rename_i n e hu
      rw [hud] at hu; obtain rfl := udOf_array hu.symm
      cases hl
      exact ⟨_, by simp [Builtin.len_, run_underlying hd]; rfl, .int _ _⟩
    · rename_i e a n c hu
      rw [hud] at hu; obtain rfl := udOf_slice hu.symm
      cases hl
      have : ∃ ca cc, x' = .slice ca n cc := by cases hx <;> exact ⟨_, _, rfl⟩
      obtain ⟨ca, cc, rfl⟩ := this
      exact ⟨_, by simp [Builtin.len_, run_underlying hd]; rfl, .int _ _⟩
    · rename_i a b hu
      rw [hud] at hu; obtain rfl := udOf_map hu.symm
      cases hl; cases hx
      exact ⟨_, by simp [Builtin.len_, run_underlying hd]; rfl, .int _ _⟩
    · rename_i a b B hu
      rw [hud] at hu; obtain rfl := udOf_map hu.symm
      split at hl
      · rename_i es bs clock hg
        cases hl
        obtain ⟨en, ces, he, rfl, hrw, hh, hml, hbe, hnd, hbo⟩ := map_spec H hg hx
        refine ⟨goInt ces.size, by simp [Builtin.len_, run_underlying hd, run_getMap hh], ?_⟩
        have : es.length = ces.size := by have := hml.1; simpa using this
        rw [this]; exact .int _ _
      · cases hl
    · rename_i y _ _ e hu _
      rw [hud] at hu; obtain rfl := udOf_slice hu.symm
      cases hp : psOf y with
      | none => rw [hp] at hl; cases hl
      | some els =>
        rw [hp] at hl; cases hl
        obtain ⟨ca, cc, rfl, _⟩ := ps_inv (k := els.1) (els := els.2) hp hx
        exact ⟨_, by simp [Builtin.len_, run_underlying hd]; rfl, .int _ _⟩
    · cases hl
  · cases hl
end
end Go.AI
