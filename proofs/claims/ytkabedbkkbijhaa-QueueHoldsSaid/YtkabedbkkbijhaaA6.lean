/-
  EACH OPERATION OF THE INTERPRETER AGAINST THE MODEL'S: structs, slices. (Own work.)
-/
import Derived.Test.YtkabedbkkbijhaaA5
namespace Go.AI
open Go.RowKit

section
variable {okc : Nat → Code → XC → Prop} {P : Program} {T : Tab} {ρ : Ren} {h : AH} {w : World}
/-! ### filling -/
abbrev PL (ρ : Ren) : List (Nat × Value) → List (Nat × Value) → Prop := L2 fun a b => a.1 = b.1 ∧ VR ρ a.2 b.2
theorem fold_sound (off : Nat) : ∀ (l l' : List (Value × Nat)), L2 (fun a b => VC ρ a.1 b.1 ∧ a.2 = b.2) l l' → ∀ (cs cs' : Array Value), CL ρ cs.toList cs'.toList →
    CL ρ (l.foldl (fun cs (x : Value × Nat) => cs.setIfInBounds (off + x.2) x.1) cs).toList (l'.foldl (fun cs (x : Value × Nat) => cs.setIfInBounds (off + x.2) x.1) cs').toList
  | [], l', hl, cs, cs', hc => by rw [hl.nil_left]; exact hc
  | x :: l, l', hl, cs, cs', hc => by
    obtain ⟨y, l2, rfl, hxy, hl2⟩ := hl.cons_left
    simp only [List.foldl_cons]
    refine fold_sound off l l2 hl2 _ _ ?_
    rw [Array.toList_setIfInBounds, Array.toList_setIfInBounds, hxy.2]
    exact hc.set _ hxy.1
theorem zip_sound {xs ys : List Value} (hl : CL ρ xs ys) : L2 (fun a b => VC ρ a.1 b.1 ∧ a.2 = b.2) xs.zipIdx ys.zipIdx := by
  refine ⟨by simp [hl.1], fun i x y hx hy => ?_⟩
  rw [List.getElem?_zipIdx] at hx hy
  cases ha : xs[i]? with
  | none => rw [ha] at hx; cases hx
  | some u =>
    cases hb : ys[i]? with
    | none => rw [hb] at hy; cases hy
    | some v => rw [ha] at hx; rw [hb] at hy; cases hx; cases hy; exact ⟨hl.2 i u v ha hb, rfl⟩
theorem fill_sound (place : Nat → Option (Nat × Nat)) : ∀ (parts parts' : List (Nat × Value)) (cs cs' r : Array Value), PL ρ parts parts' → (parts.all fun p => notTup p.2) = true → CL ρ cs.toList cs'.toList →
    Instr.fill place cs parts = some r → ∃ r', Instr.fill place cs' parts' = some r' ∧ CL ρ r.toList r'.toList
  | [], parts', cs, cs', r, hp, _, hc, hf => by
    rw [hp.nil_left]
    simp only [Instr.fill] at hf ⊢
    cases hf
    exact ⟨cs', rfl, hc⟩
  | (i, v) :: rest, parts', cs, cs', r, hp, hn, hc, hf => by
    obtain ⟨⟨i', v'⟩, rest', rfl, ⟨hi, hv⟩, hp'⟩ := hp.cons_left
    dsimp only at hi hv
    subst hi
    simp only [List.all_cons, Bool.and_eq_true] at hn
    simp only [Instr.fill] at hf ⊢
    have hcs : cs.size = cs'.size := by have := hc.1; simpa using this
    cases hpl : place i with
    | none => rw [hpl] at hf; cases hf
    | some os =>
      obtain ⟨off, size⟩ := os
      rw [hpl] at hf
      dsimp only at hf ⊢
      rw [hv.cells_size, hcs] at hf
      split at hf
      · cases hf
      · rename_i hcond
        rw [if_neg hcond]
        refine fill_sound place rest rest' _ _ r hp' hn.2 ?_ hf
        have e1 : ∀ (a b : Array Value), Array.foldl (fun cs (x : Value × Nat) => match x with | (c, j) => cs.setIfInBounds (off + j) c) b a.zipIdx = a.toList.zipIdx.foldl (fun cs (x : Value × Nat) => cs.setIfInBounds (off + x.2) x.1) b := by
          intro a b
          rw [← Array.foldl_toList, Array.toList_zipIdx]
        rw [e1, e1]
        exact fold_sound off _ _ (zip_sound (hv.cells hn.1)) _ _ hc
theorem PL.cl_zero {v : Value} (hf : flatV v = true) : CL ρ v.cells.toList v.cells.toList := by
  refine (VR.flat hf).cells ?_
  cases v <;> simp_all [notTup, flatV, simpleV]
variable (hT : ∀ t i, T t = some i → tabOf P t = some i)
include hT
theorem places_ok : ∀ (fs : List Field), (fs.all fun f => (T f.type).isSome) = true →
    ∃ places : List (Nat × Nat), fs.mapM (fun f => (P.info? f.type).map fun i => (f.offset, i.size)) = some places ∧ ∀ (j : Nat), places[j]? = ((fs.map fun f => (f.offset, f.type, f.name == "_"))[j]?).bind fun f => (T f.2.1).map fun g => (f.1, g.size)
  | [], _ => ⟨[], by simp, fun j => by simp⟩
  | f :: fs, ha => by
    simp only [List.all_cons, Bool.and_eq_true] at ha
    obtain ⟨g, hg⟩ := Option.isSome_iff_exists.1 ha.1
    obtain ⟨places, hp, hj⟩ := places_ok fs ha.2
    obtain ⟨I, d, hI, _, _, hs, _⟩ := (tsp hT hg).ex
    refine ⟨(f.offset, g.size) :: places, by simp [List.mapM_cons, hI, hp, hs], fun j => ?_⟩
    cases j with
    | zero => simp [hg]
    | succ j => simpa using hj j
theorem build_sound {t : TypeId} {parts parts' : List (Nat × Value)} {v : Value} (hl : aBuild T t parts = some v) (hp : PL ρ parts parts') (w : World) :
    ∃ v', (Instr.build t parts'.toArray).run P w = .ok v' w ∧ VR ρ v v' := by
  unfold aBuild at hl
  split at hl
  · rename_i hn
    split at hl
    · rename_i i hi
      have s := tsp hT hi
      obtain ⟨I, d, hI, hd, hud, hsz, _, hz⟩ := s.ex
      split at hl
      · rename_i fs hfs
        split at hl
        · rename_i hall
          rw [hud] at hfs
          obtain ⟨gs, rfl, rfl⟩ := udOf_struct hfs.symm
          obtain ⟨places, hpl, hj⟩ := places_ok hT gs.toList (by simpa using hall)
          cases hf : Instr.fill (fun j => ((gs.toList.map fun f : Field => (f.offset, f.type, f.name == "_"))[j]?).bind fun f : Nat × TypeId × Bool => (T f.2.1).map fun g : TI => (f.1, g.size)) i.zero.cells parts with
          | none => rw [hf] at hl; cases hl
          | some r =>
            rw [hf] at hl; cases hl
            have e1 : (fun j : Nat => ((gs.toList.map fun f : Field => (f.offset, f.type, f.name == "_"))[j]?).bind fun f : Nat × TypeId × Bool => (T f.2.1).map fun g : TI => (f.1, g.size)) = fun j : Nat => places.toArray[j]? := by
              funext j; rw [← hj j]; simp
            rw [e1] at hf
            obtain ⟨r', hf', hr⟩ := fill_sound _ parts parts' _ _ r hp hn (PL.cl_zero (ρ := ρ) s.flat) hf
            refine ⟨.agg r', run_build w t parts'.toArray r' ?_, VR.agg_iff.2 hr⟩
            unfold Program.built
            rw [hI, hd]
            dsimp only
            rw [hz, hpl]
            exact hf'
        · cases hl
      · rename_i n e hfs
        rw [hud] at hfs
        obtain rfl := udOf_array hfs.symm
        cases hg : T e with
        | none => rw [hg] at hl; cases hl
        | some g =>
          rw [hg] at hl
          simp only [Option.bind_some] at hl
          cases hf : Instr.fill (fun j => some (j * g.size, g.size)) i.zero.cells parts with
          | none => rw [hf] at hl; cases hl
          | some r =>
            rw [hf] at hl; cases hl
            obtain ⟨r', hf', hr⟩ := fill_sound _ parts parts' _ _ r hp hn (PL.cl_zero (ρ := ρ) s.flat) hf
            refine ⟨.agg r', run_build w t parts'.toArray r' ?_, VR.agg_iff.2 hr⟩
            obtain ⟨I2, d2, hI2, _, _, hs2, _⟩ := (tsp hT hg).ex
            unfold Program.built
            rw [hI, hd]
            dsimp only
            rw [hz, hI2]
            dsimp only
            rw [hs2]
            exact hf'
      · cases hl
    · cases hl
  · cases hl
omit hT
/-! ### rows of zeros -/
theorem length_zeros (z : List Value) : ∀ n, (zeros z n).length = n * z.length
  | 0 => by simp [zeros]
  | n + 1 => by simp [zeros, length_zeros z n, Nat.succ_mul, Nat.add_comm]
theorem get_zeros (z : List Value) (hz : 0 < z.length) : ∀ (n i : Nat), i < n * z.length → (zeros z n)[i]? = z[i % z.length]?
  | 0, i, h => by simp at h
  | n + 1, i, h => by
    simp only [zeros]
    by_cases hi : i < z.length
    · rw [List.getElem?_append_left hi, Nat.mod_eq_of_lt hi]
    · rw [List.getElem?_append_right (by omega), get_zeros z hz n _ (by rw [Nat.succ_mul] at h; omega)]
      congr 1
      have : i % z.length = (i - z.length) % z.length := by
        rw [Nat.mod_eq_sub_mod (by omega)]
      exact this.symm
theorem cl_zeros {z : List Value} (hz : CL ρ z z) (n : Nat) : CL ρ (zeros z n) (zeros z n) := by
  induction n with
  | zero => exact .nil
  | succ n ih => exact hz.append ih
theorem zeros_eq (z : Array Value) (n : Nat) (zz : Array Value) (hzz : n * z.size = 0 ∨ zz = z) : ((Array.range (n * z.size)).map fun i => zz[i % zz.size]!).toList = zeros z.toList n := by
  apply List.ext_getElem?
  intro i
  by_cases hi : i < n * z.size
  · have hz : 0 < z.size := by
      rcases Nat.eq_zero_or_pos z.size with e | e
      · rw [e] at hi; simp at hi
      · exact e
    obtain rfl : zz = z := by rcases hzz with e | e; (rw [e] at hi; simp at hi); exact e
    rw [get_zeros zz.toList (by simpa using hz) n i (by simpa using hi)]
    have hm : i % zz.size < zz.size := Nat.mod_lt _ hz
    simp [hi, hm]
  · rw [List.getElem?_eq_none (by simp; omega), List.getElem?_eq_none (by rw [length_zeros]; simp; omega)]
theorem newSlice_sound (H : HR okc ρ h w) (cs cs' : List Value) (arr : Array Value) (e : TypeId) (len c sz cap : Nat) (hc : CL ρ cs cs') (harr : arr.toList.take cs.length = cs') (hlc : len ≤ cap) (hcc : c ≠ 0 → cap = c - 1) (hb : cap * sz ≤ arr.size) :
    VR (ρ.add h.n ⟨w.heap.size, 0, arr.size, sz, true, none⟩) (newRowV h cs sz len c).1 (.slice (some ⟨w.heap.size, 0, none⟩) len cap) ∧
    HR okc (ρ.add h.n ⟨w.heap.size, 0, arr.size, sz, true, none⟩) (newRowV h cs sz len c).2 (w.alloc (.cells arr e)) ∧
    Ext ρ h w (ρ.add h.n ⟨w.heap.size, 0, arr.size, sz, true, none⟩) (newRowV h cs sz len c).2 (w.alloc (.cells arr e)) := by
  obtain ⟨h1, h2⟩ := new_spec H cs cs' arr e sz hc harr
  refine ⟨?_, h1, h2⟩
  exact VR.sl (e := ⟨w.heap.size, 0, arr.size, sz, true, none⟩) (Ren.add_new _ _ _) hlc hcc (.inr (by simp)) (fun _ => by simpa using hb)
include hT
theorem buildSlice_sound (H : HR okc ρ h w) {t : TypeId} {len : Nat} {parts parts' : List (Nat × Value)} {r : Value × AH} (hl : aBuildSlice T h t len parts = some r) (hp : PL ρ parts parts') :
    Got okc P ρ h w (Instr.buildSlice t len parts'.toArray) r.1 r.2 := by
  unfold aBuildSlice at hl
  split at hl
  · rename_i i hi
    have s := tsp hT hi
    obtain ⟨d, hd, hud⟩ := und s
    split at hl
    · rename_i e he
      rw [hud] at he
      obtain rfl := udOf_slice he.symm
      split at hl
      · rename_i g hg
        have sg := tsp hT hg
        split at hl
        · cases hl
        · rename_i hc
          simp only [not_or, Bool.not_eq_false] at hc
          cases hf : Instr.fill (fun j => some (j * g.size, g.size)) (zeros g.zero.cells.toList len).toArray parts with
          | none => rw [hf] at hl; cases hl
          | some cs =>
            rw [hf] at hl; cases hl
            obtain ⟨cs', hf', hcs⟩ := fill_sound _ parts parts' _ (zeros g.zero.cells.toList len).toArray cs hp hc.2 (by simpa using cl_zeros (PL.cl_zero (ρ := ρ) sg.flat) len) hf
            have hlen : cs.size = len * g.size := by
              have : ∀ (parts : List (Nat × Value)) (a r : Array Value), Instr.fill (fun j => some (j * g.size, g.size)) a parts = some r → r.size = a.size := by
                intro parts
                induction parts with
                | nil => intro a r hr; simp only [Instr.fill] at hr; cases hr; rfl
                | cons p ps ih =>
                  intro a r hr
                  obtain ⟨i, v⟩ := p
                  simp only [Instr.fill] at hr
                  split at hr
                  · cases hr
                  · rw [ih _ _ hr]
                    have key : ∀ (l : List (Value × Nat)) (b : Array Value), (l.foldl (fun cs (x : Value × Nat) => match x with | (c, j) => cs.setIfInBounds (i * g.size + j) c) b).size = b.size := by
                      intro l
                      induction l with
                      | nil => intro b; rfl
                      | cons x l ih => intro b; simp [ih]
                    rw [← Array.foldl_toList]
                    exact key _ _
              rw [this _ _ _ hf]
              simp [length_zeros, sg.csz]
            have hsz' : cs.size = cs'.size := by have := hcs.1; simpa using this
            obtain ⟨a1, a2, a3⟩ := newSlice_sound (okc := okc) H cs.toList cs'.toList cs' e len (len + 1) g.size len hcs (by rw [Array.length_toList, hsz', ← Array.length_toList, List.take_length]) (Nat.le_refl _) (fun _ => rfl) (by omega)
            refine ⟨_, _, _, ?_, a1, a2, a3⟩
            have hz2 : ((Array.range (len * g.size)).map fun x => (if len * g.size = 0 then #[] else g.zero.cells)[x % (if len * g.size = 0 then #[] else g.zero.cells : Array Value).size]!) = (zeros g.zero.cells.toList len).toArray := by
              apply Array.ext'
              have := zeros_eq g.zero.cells len (if len * g.size = 0 then #[] else g.zero.cells) (by rw [sg.csz]; by_cases e0 : len * g.size = 0; exact .inl e0; exact .inr (by rw [if_neg e0]))
              rw [sg.csz] at this
              simpa using this
            have hle : ¬ (len * g.size > 2 ^ 24) := by omega
            by_cases e0 : len * g.size = 0
            · simp only [if_pos e0] at hz2
              simp only [Instr.buildSlice, Sem.run_bind, run_underlying hd, Result.andThen_ok, sg.sizeOf, Sem.run_ite, if_neg hle, if_pos e0, Sem.run_pure, hz2, hf', newRow, run_newObj]
              rfl
            · simp only [if_neg e0] at hz2
              simp only [Instr.buildSlice, Sem.run_bind, run_underlying hd, Result.andThen_ok, sg.sizeOf, Sem.run_ite, if_neg hle, if_neg e0, sg.zeroValue, Sem.run_pure, hz2, hf', newRow, run_newObj]
              rfl
      · cases hl
    · cases hl
  · cases hl
end
end Go.AI
