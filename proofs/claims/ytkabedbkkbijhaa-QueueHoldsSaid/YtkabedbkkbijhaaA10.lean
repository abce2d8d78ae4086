/-
  EACH OPERATION OF THE INTERPRETER AGAINST THE MODEL'S: all together. (Own work.)
-/
import Derived.Test.YtkabedbkkbijhaaA9
namespace Go.AI
open Go.RowKit

def HasBody (P : Program) (f : FuncId) : Prop := ∃ fn, P.funcs[f]? = some fn ∧ fn.body.isSome = true ∧ fn.name ≠ "runtime.NumGoroutine"
/-- What an operation of the interpreter promises: the model's runs to a related value. -/
inductive StepR (okc : Nat → Code → XC → Prop) (P : Program) (ρ : Ren) (h : AH) (w : World) : Result Next → AR → Prop
  | val {n : Next} {v v' : Value} {h' : AH} {ρ' : Ren} {w' : World} (hn : n = .value v' ∨ (n = .skip ∧ v' = undef)) (hv : VR ρ' v v') (H : HR okc ρ' h' w') (E : Ext ρ h w ρ' h' w') : StepR okc P ρ h w (.ok n w') (.val v h')
  | call {f : FuncId} {args : List Value} {args' : Array Value} {r : Result Next} (ha : VL ρ args args'.toList) (hr : HasBody P f → r = .ok (.enter f args') w) : StepR okc P ρ h w r (.call f args)
  | panic {v v' : Value} (hv : VR ρ v v') : StepR okc P ρ h w (.halt (.panic v') w) (.panic v)
  | yield {l : Nat} {e : Ent} {args : List Value} {args' : Array Value} {r : Result Next} (he : ρ l = some e) (ha : VL ρ args args'.toList) (hr : r = (Instr.yield e.blk args').run P w) : StepR okc P ρ h w r (.yield l args)
  | any {l : List (Value × AH)} {p : Value × AH} {v' : Value} {ρ' : Ren} {w' : World} (hp : p ∈ l) (hv : VR ρ' p.1 v') (H : HR okc ρ' p.2 w') (E : Ext ρ h w ρ' p.2 w') : StepR okc P ρ h w (.ok (.value v') w') (.any l)
def Glob (ng : Nat) (ρ : Ren) : Prop := ∀ g, g < ng → ∃ e, ρ g = some e ∧ e.blk = g ∧ e.off = 0
theorem Glob.mono {ng : Nat} {ρ ρ' : Ren} (h : Glob ng ρ) (hs : Sub ρ ρ') : Glob ng ρ' := fun g hg => let ⟨e, a, b⟩ := h g hg; ⟨e, hs _ _ a, b⟩
section
variable {okc : Nat → Code → XC → Prop} {P : Program} {T : Tab} {ρ : Ren} {h : AH} {w : World} {fr : Fr} {a : Act} {ng : Nat}
theorem ev_rel (hf : FrR ρ fr a.tmps) (hg : Glob ng ρ) {x : Operand} (ok : okOperand ng x = true) : VR ρ (ev fr x) (a.eval x) := by
  cases x with
  | tmp t => exact hf t
  | const v => exact .simple ok
  | global g =>
    obtain ⟨e, he, hb, ho⟩ := hg g (by simpa [okOperand] using ok)
    have := VR.ptr (off := 0) he
    rw [hb, ho] at this
    exact this
  | func f => exact .func f _ _ _ _ rfl rfl (fun i v v' x => by simp at x) (fun i v v' x => by simp at x)
theorem evs_rel (hf : FrR ρ fr a.tmps) (hg : Glob ng ρ) : ∀ {xs : List Operand}, (xs.all (okOperand ng)) = true → VL ρ (xs.map (ev fr)) (xs.map a.eval)
  | [], _ => .nil
  | x :: xs, h => by
    simp only [List.all_cons, Bool.and_eq_true] at h
    exact .cons (ev_rel hf hg h.1) (evs_rel hf hg h.2)
theorem opt_rel (hf : FrR ρ fr a.tmps) (hg : Glob ng ρ) : ∀ {x : Option Operand}, (x.toArray.toList.all (okOperand ng)) = true → OptR ρ (x.map (ev fr)) (x.map a.eval)
  | none, _ => trivial
  | some x, h => ev_rel hf hg (by simpa using h)
theorem parts_rel (hf : FrR ρ fr a.tmps) (hg : Glob ng ρ) : ∀ {xs : List (Nat × Operand)}, ((xs.map (·.2)).all (okOperand ng)) = true → PL ρ (xs.map fun p => (p.1, ev fr p.2)) (xs.map fun p => (p.1, a.eval p.2))
  | [], _ => .nil
  | x :: xs, h => by
    simp only [List.map_cons, List.all_cons, Bool.and_eq_true] at h
    exact .cons ⟨rfl, ev_rel hf hg h.1⟩ (parts_rel hf hg h.2)
theorem stepVal (H : HR okc ρ h w) {s : Sem Value} {v : Value} (hs : ∃ v', s.run P w = .ok v' w ∧ VR ρ v v') : StepR okc P ρ h w ((do pure (.value (← s)) : Sem Next).run P w) (.val v h) := by
  obtain ⟨v', h1, h2⟩ := hs
  simp only [Sem.run_bind, h1, Result.andThen_ok, Sem.run_pure]
  exact .val (.inl rfl) h2 H (.refl _ _ _)
theorem stepG {s : Sem Value} {v : Value} {h' : AH} (hs : Got okc P ρ h w s v h') : StepR okc P ρ h w ((do pure (.value (← s)) : Sem Next).run P w) (.val v h') := by
  obtain ⟨ρ', v', w', h1, h2, h3, h4⟩ := hs
  simp only [Sem.run_bind, h1, Result.andThen_ok, Sem.run_pure]
  exact .val (.inl rfl) h2 h3 h4
theorem stepU {s : Sem Unit} {h' : AH} (hs : GotU okc P ρ h w s h') : StepR okc P ρ h w ((do s; pure .skip : Sem Next).run P w) (.val undef h') := by
  obtain ⟨ρ', w', h1, h3, h4⟩ := hs
  simp only [Sem.run_bind, h1, Result.andThen_ok, Sem.run_pure]
  exact .val (.inr ⟨rfl, rfl⟩) (VR.tuple_iff.2 .nil) h3 h4
/-! ### a walk over a map -/
theorem HR.heap (H : HR okc ρ h w) {w' : World} (e : w'.heap = w.heap) : HR okc ρ h w' :=
  ⟨H.dom, fun B f hB => by rw [e]; exact H.lt B f hB, fun B o f a b => (H.obj B o f a b).imp id fun x => x.mono (.refl _) (by rw [e]), H.inj, H.ro, fun B f arr a b => by rw [e]; exact H.frz B f arr a b⟩
theorem Ext.heap {w' : World} (e : w'.heap = w.heap) (e1 : w'.os = w.os) (e2 : w'.tape = w.tape) (e3 : w'.output = w.output) : Ext ρ h w ρ h w' :=
  ⟨.refl _, Nat.le_refl _, fun _ _ => rfl, by rw [e]; exact Nat.le_refl _, e1, e2, e3, fun k _ ho => ⟨by rw [e], ho⟩⟩
theorem iter_spec (H : HR okc ρ h w) {B : Nat} {m : Option Nat} {si st : Nat} {se : List Nat} {e : Ent} (hg : h.get B = some (.iter m si se st)) (he : ρ B = some e) :
    e.rw = true ∧ e.off = 0 ∧ ∃ m', w.heap[e.blk]? = some (.mapIter m' si se.toArray st) ∧ (m = none → m' = none) ∧ ∀ b, m = some b → ∃ e', ρ b = some e' ∧ m' = some e'.blk := by
  rcases H.obj _ _ _ hg he with x | x
  · cases x
  · obtain ⟨a, b, m', c, d⟩ := x
    refine ⟨a, b, m', c, ?_, ?_⟩
    · rintro rfl; exact d
    · rintro y rfl; exact d
theorem mapb_spec (H : HR okc ρ h w) {B : Nat} {es : List (Value × Value)} {bs : List Nat} {clk : Nat} {e : Ent} (hg : h.get B = some (.map es bs clk)) (he : ρ B = some e) :
    ∃ ces, w.heap[e.blk]? = some (.map ces clk) ∧ ML ρ es ces.toList ∧ ces.toList.map (·.born) = bs := by
  rcases H.obj _ _ _ hg he with x | x
  · cases x
  · obtain ⟨_, ces, a, b, c, _⟩ := x; exact ⟨ces, a, b, c⟩
theorem zip_at {es : List (Value × Value)} {ces : List MapEntry} (hm : ML ρ es ces) {c : MapEntry} (hc : c ∈ ces) : ∃ x, (x, c.born) ∈ es.zip (ces.map (·.born)) ∧ VR ρ x.1 c.key ∧ VR ρ x.2 c.val := by
  obtain ⟨i, hi⟩ := List.getElem?_of_mem hc
  have hlt : i < es.length := by rw [hm.1]; exact (List.getElem?_eq_some_iff.1 hi).1
  refine ⟨es[i], ?_, ?_⟩
  · refine List.mem_of_getElem? (i := i) ?_
    rw [List.getElem?_zip_eq_some]
    exact ⟨List.getElem?_eq_getElem hlt, by rw [List.getElem?_map, hi]; rfl⟩
  · exact hm.2 i _ _ (List.getElem?_eq_getElem hlt) hi
theorem next_sound (H : HR okc ρ h w) {x x' : Value} {r : AR} {ty : TypeId} (hl : aNext h x = some r) (hx : VR ρ x x') : StepR okc P ρ h w ((do pure (.value (← Instr.next x' false ty)) : Sem Next).run P w) r := by
  unfold aNext at hl
  split at hl
  case h_2 => cases hl
  rename_i a
  obtain ⟨e, he, hs, rfl⟩ := ptr_inv hx
  split at hl
  · cases hl
  rename_i ha
  have ha : a.off = 0 := by simpa using ha
  have hover : ∀ ρ', VR ρ' overV (.tuple #[.bool false]) := fun ρ' => VR.tuple_iff.2 (.cons (.bool false) .nil)
  split at hl
  · rename_i si se st hg
    cases hl
    obtain ⟨_, hoff, m', hh, hm, _⟩ := iter_spec H hg he
    obtain rfl := hm rfl
    rw [hoff, ha]
    simp only [Instr.next, getObj, Sem.run_bind, Sem.run, hh, Result.andThen_ok, Sem.run_pure]
    exact .any (p := (overV, h)) (by simp) (hover ρ) H (.refl _ _ _)
  · rename_i m since seen last hg
    split at hl
    case h_2 => cases hl
    rename_i es bs clk hgm
    split at hl
    · cases hl
    rename_i hcond
    cases hl
    obtain ⟨hrw, hoff, m', hh, _, hm⟩ := iter_spec H hg he
    obtain ⟨e', he', rfl⟩ := hm m rfl
    obtain ⟨ces, hhm, hml, rfl⟩ := mapb_spec H hgm he'
    rw [hoff, ha]
    have hne : (!seen.toArray.isEmpty && !ces.isEmpty && ces.all fun x => decide (x.born ≥ last)) = false := by
      have hes : es.isEmpty = ces.isEmpty := by
        have := hml.1
        rw [Bool.eq_iff_iff]
        simp [List.isEmpty_iff, Array.isEmpty_iff, ← List.length_eq_zero_iff, ← Array.size_eq_zero_iff]
        simp at this
        omega
      simp only [Bool.not_eq_true] at hcond
      rw [hes, List.all_map] at hcond
      rw [← Array.all_toList]
      simpa using hcond
    obtain ⟨left, hleft⟩ : ∃ left, left = ces.filter fun x => !seen.toArray.contains x.born := ⟨_, rfl⟩
    obtain ⟨cand, hcand⟩ : ∃ cand, cand = (if (left.filter fun x => decide (x.born < since)).isEmpty then #[none] else #[]) ++ (left.filter (fun x => decide (x.born < since)) ++ left.filter fun x => decide (x.born ≥ since)).map some := ⟨_, rfl⟩
    have hpos : 0 < cand.size := by
      rw [hcand]
      split
      · simp; omega
      · rename_i hx
        simp [Array.isEmpty_iff, ← Array.size_eq_zero_iff] at hx ⊢
        omega
    have hch : ∃ n w1, (choose (.mapNext cand.size)).run P w = .ok n w1 ∧ n < cand.size ∧ w1.heap = w.heap ∧ w1.os = w.os ∧ w1.tape = w.tape ∧ w1.output = w.output := by
      rw [run_choose]
      by_cases hfo : (Question.mapNext cand.size).forced = true
      · refine ⟨0, w, by simp [hfo], hpos, rfl, rfl, rfl, rfl⟩
      · refine ⟨_, { w with drawn := w.drawn + 1 }, by rw [if_neg hfo], ?_, rfl, rfl, rfl, rfl⟩
        exact Nat.mod_lt _ hpos
    obtain ⟨n, w1, hrun, hn, q1, q2, q3, q4⟩ := hch
    have hrun1 : (getObj e.blk).run P w = .ok (.mapIter (some e'.blk) since seen.toArray last) w := by simp [getObj, Sem.run, hh]
    have hrun2 : (getObj e'.blk).run P w = .ok (.map ces clk) w := by simp [getObj, Sem.run, hhm]
    have hbody : (Instr.next (.pointer (some ⟨e.blk, 0 + 0, none⟩)) false ty).run P w = (match cand[n]? with
        | some (some c) => (do setObj e.blk (.mapIter (some e'.blk) since (seen.toArray.push c.born) clk); pure (.tuple #[.bool true, c.key, c.val]))
        | some none => pure (.tuple #[.bool false])
        | none => stuck "Next: no such candidate" : Sem Value).run P w1 := by
      simp only [Instr.next, Nat.add_zero, Sem.run_bind, hrun1, hrun2, Result.andThen_ok, hne, Bool.false_eq_true, if_false, ← hleft, ← hcand, hrun]
      try rfl
    have H1 := H.heap q1
    have E1 := Ext.heap (ρ := ρ) (h := h) q1 q2 q3 q4
    obtain ⟨c, hc⟩ : ∃ c, cand[n]? = some c := ⟨_, Array.getElem?_eq_getElem hn⟩
    have hmem : c ∈ cand.toList := by rw [Array.mem_toList_iff]; exact Array.mem_of_getElem? hc
    rw [hcand] at hmem
    simp only [Sem.run_bind, hbody, hc]
    cases c with
    | none =>
      have hemp : (left.filter fun x => decide (x.born < since)).isEmpty = true := by
        by_cases hx : (left.filter fun x => decide (x.born < since)).isEmpty = true
        · exact hx
        · rw [if_neg hx] at hmem; simp at hmem
      simp only [Sem.run_pure, Result.andThen_ok]
      refine .any (p := (overV, h)) ?_ (hover ρ) H1 E1
      refine List.mem_append_left _ ?_
      rw [if_pos]
      · simp
      · rw [List.isEmpty_iff, List.filter_eq_nil_iff]
        rintro ⟨x, b⟩ hxb hlt
        rw [List.mem_filter] at hxb
        obtain ⟨hz, hnot⟩ := hxb
        have hb := (List.of_mem_zip hz).2
        obtain ⟨y, hy, hyb⟩ := List.mem_map.1 hb
        simp [Array.isEmpty_iff, Array.filter_eq_empty_iff] at hemp
        have hyl : y ∈ left := by
          rw [hleft, Array.mem_filter]
          exact ⟨Array.mem_toList_iff.1 hy, by simpa [hyb] using hnot⟩
        have := hemp y hyl
        simp at hlt
        omega
    | some c =>
      have hcl : c ∈ left := by
        simp at hmem
        rcases hmem with k | k <;> exact k.1
      rw [hleft, Array.mem_filter] at hcl
      obtain ⟨x, hx1, hx2, hx3⟩ := zip_at hml (Array.mem_toList_iff.2 hcl.1)
      have hlt := H.lt _ _ he
      have hset : (setObj e.blk (.mapIter (some e'.blk) since (seen.toArray.push c.born) clk)).run P w1 = .ok () { w1 with heap := w1.heap.setIfInBounds e.blk (.mapIter (some e'.blk) since (seen.toArray.push c.born) clk) } := by
        simp [setObj, Sem.run, q1, hh]
      simp only [Sem.run_bind, hset, Result.andThen_ok, Sem.run_pure]
      obtain ⟨H2, E2⟩ := H1.upd (w' := { w1 with heap := w1.heap.setIfInBounds e.blk (.mapIter (some e'.blk) since (seen.toArray.push c.born) clk) }) (o' := .iter (some m) since (seen ++ [c.born]) clk) hg rfl he rfl (by simp) rfl rfl rfl
        (fun k hk => by simp [Ne.symm hk]) ⟨hrw, hoff, some e'.blk, by simp [q1, hlt], e', he', rfl⟩
      refine .any (p := (stepV x, h.set a.block (.iter (some m) since (seen ++ [c.born]) clk))) ?_ ?_ H2 (E1.trans E2)
      · refine List.mem_append_right _ (List.mem_map.2 ⟨(x, c.born), ?_, rfl⟩)
        rw [List.mem_filter]
        exact ⟨hx1, by simpa using hcl.2⟩
      · exact VR.tuple_iff.2 (.cons (.bool true) (.cons hx2 (.cons hx3 .nil)))
  · cases hl
theorem entry_sound (H : HR okc ρ h w) {x x' : Value} {r : AR} (hl : aEntry h x = some r) (hx : VR ρ x x') : StepR okc P ρ h w ((do pure (.value (← Instr.entry x')) : Sem Next).run P w) r := by
  unfold aEntry at hl
  split at hl
  case h_2 => cases hl
  rename_i a
  obtain ⟨e, he, hs, rfl⟩ := ptr_inv hx
  split at hl
  · cases hl
  rename_i ha
  have ha : a.off = 0 := by simpa using ha
  split at hl
  case h_2 => cases hl
  rename_i m since seen stepped hg
  split at hl
  case h_2 => cases hl
  rename_i es bs clk stamp hgm hlast
  split at hl
  · cases hl
  rename_i hclk
  have hclk : clk = stepped := by simpa using hclk
  subst hclk
  obtain ⟨hrw, hoff, m', hh, _, hm⟩ := iter_spec H hg he
  obtain ⟨e', he', rfl⟩ := hm m rfl
  obtain ⟨ces, hhm, hml, rfl⟩ := mapb_spec H hgm he'
  cases hf : (es.zip (ces.toList.map (·.born))).find? fun e => e.2 == stamp with
  | none => rw [hf] at hl; cases hl
  | some p =>
    rw [hf] at hl
    cases hl
    rw [hoff, ha]
    have hrun1 : (getObj e.blk).run P w = .ok (.mapIter (some e'.blk) since seen.toArray clk) w := by simp [getObj, Sem.run, hh]
    have hrun2 : (getObj e'.blk).run P w = .ok (.map ces clk) w := by simp [getObj, Sem.run, hhm]
    have hback : seen.toArray.back? = some stamp := by rw [List.back?_toArray]; exact hlast
    obtain ⟨c, hc1, hc2, hc3⟩ : ∃ c, ces.find? (fun x => x.born == stamp) = some c ∧ VR ρ p.1.1 c.key ∧ VR ρ p.1.2 c.val := by
      rw [← Array.find?_toList]
      generalize ces.toList = l at hml hf
      clear hgm hhm hrun2
      induction l generalizing es with
      | nil => simp at hf
      | cons c l ih =>
        cases es with
        | nil => simp at hf
        | cons y es =>
          simp only [List.map_cons, List.zip_cons_cons, List.find?_cons] at hf ⊢
          by_cases hb : (c.born == stamp) = true
          · rw [hb] at hf ⊢
            cases hf
            exact ⟨c, rfl, hml.head.1, hml.head.2⟩
          · simp only [Bool.not_eq_true] at hb
            rw [hb] at hf ⊢
            exact ih _ hml.tail hf
    simp only [Instr.entry, Nat.add_zero, Sem.run_bind, hrun1, hrun2, Result.andThen_ok, hback, hc1, bne_self_eq_false, Bool.false_eq_true, if_false, Sem.run_pure]
    exact .val (.inl rfl) (VR.tuple_iff.2 (.cons hc2 (.cons hc3 .nil))) H (.refl _ _ _)
theorem range_sound' (hT : ∀ t i, T t = some i → tabOf P t = some i) (H : HR okc ρ h w) {t : TypeId} {x x' : Value} {r : AR} (hl : aRange T h t x = some r) (hx : VR ρ x x') : StepR okc P ρ h w ((do pure (.value (← Instr.range t x')) : Sem Next).run P w) r := by
  unfold aRange at hl
  split at hl
  · rename_i i hi
    obtain ⟨d, hd, hud⟩ := und (tsp hT hi)
    split at hl
    case h_2 => cases hl
    rename_i k v hu
    rw [hud] at hu
    obtain rfl := udOf_map hu.symm
    cases hl
    cases hx
    obtain ⟨h1, h2⟩ := H.push (.mapIter none 0 #[] 0) (.iter none 0 [] 0) ⟨w.heap.size, 0, 0, 0, true, none⟩ rfl rfl ⟨rfl, rfl, none, heap_alloc_at w _, rfl⟩
    refine stepG ⟨_, .pointer (some ⟨w.heap.size, 0, none⟩), _, ?_, ?_, h1, h2⟩
    · simp [Instr.range, run_underlying hd]
    · exact VR.ptr (e := ⟨w.heap.size, 0, 0, 0, true, none⟩) (Ren.add_new _ _ _)
  · rename_i i b hi
    obtain ⟨d, hd, hud⟩ := und (tsp hT hi)
    split at hl
    case h_2 => cases hl
    rename_i k v es bs clk hu hg
    rw [hud] at hu
    obtain rfl := udOf_map hu.symm
    cases hl
    obtain ⟨en, ces, he, rfl, hrw, hh, _⟩ := map_spec H hg hx
    have hBn := H.dom _ _ he
    obtain ⟨h1, h2⟩ := H.push (.mapIter (some en.blk) clk #[] clk) (.iter (some b) clk [] clk) ⟨w.heap.size, 0, 0, 0, true, none⟩ rfl rfl ⟨rfl, rfl, some en.blk, heap_alloc_at w _, en, H.sub_add _ _ _ he, rfl⟩
    refine stepG ⟨_, .pointer (some ⟨w.heap.size, 0, none⟩), _, ?_, ?_, h1, h2⟩
    · simp [Instr.range, run_underlying hd, run_getMap hh]
    · exact VR.ptr (e := ⟨w.heap.size, 0, 0, 0, true, none⟩) (Ren.add_new _ _ _)
  · cases hl
theorem vv_inv {x : Option Value} {r : AR} (hl : vv h x = some r) : ∃ v, x = some v ∧ r = .val v h := by
  cases x with
  | none => cases hl
  | some v => cases hl; exact ⟨v, rfl, rfl⟩
theorem vh_inv {x : Option (Value × AH)} {r : AR} (hl : vh x = some r) : ∃ p, x = some p ∧ r = .val p.1 p.2 := by
  cases x with
  | none => cases hl
  | some v => cases hl; exact ⟨v, rfl, rfl⟩
theorem uh_inv {x : Option AH} {r : AR} (hl : uh x = some r) : ∃ p, x = some p ∧ r = .val undef p := by
  cases x with
  | none => cases hl
  | some v => cases hl; exact ⟨v, rfl, rfl⟩
theorem list2 {xs : List Value} {x y : Value} {ys : Array Value} (h : VL ρ xs ys.toList) (e : xs = [x, y]) : ∃ x' y', ys = #[x', y'] ∧ VR ρ x x' ∧ VR ρ y y' := by
  subst e
  obtain ⟨x', r, e1, h1, h2⟩ := h.cons_left
  obtain ⟨y', r2, rfl, h3, h4⟩ := h2.cons_left
  rw [h4.nil_left] at e1
  exact ⟨x', y', Array.ext' (by simpa using e1), h1, h3⟩
theorem list1 {xs : List Value} {x : Value} {ys : Array Value} (h : VL ρ xs ys.toList) (e : xs = [x]) : ∃ x', ys = #[x'] ∧ VR ρ x x' := by
  subst e
  obtain ⟨x', r, e1, h1, h2⟩ := h.cons_left
  rw [h2.nil_left] at e1
  exact ⟨x', Array.ext' (by simpa using e1), h1⟩
theorem arr2 {ts : Array TypeId} {x y : TypeId} (e : ts.toList = [x, y]) : ts = #[x, y] := Array.ext' (by simpa using e)
theorem arr1 {ts : Array TypeId} {x : TypeId} (e : ts.toList = [x]) : ts = #[x] := Array.ext' (by simpa using e)
theorem min_sound {mx : Bool} {args : List Value} {args' : Array Value} {ts : Array TypeId} {ty : TypeId} {v : Value} (hl : aMinMax mx args = some v) (ha : VL ρ args args'.toList) (w : World) :
    ∃ v', (if mx then Builtin.max_ ts ty args' else Builtin.min_ ts ty args').run P w = .ok v' w ∧ VR ρ v v' := by
  unfold aMinMax at hl
  split at hl
  · rename_i k x k' y
    cases hl
    obtain ⟨x', y', rfl, hx, hy⟩ := list2 ha rfl
    obtain rfl := int_inv hx; obtain rfl := int_inv hy
    cases mx
    · exact ⟨_, by simp [Builtin.min_, Builtin.min2], .int _ _⟩
    · exact ⟨_, by simp [Builtin.max_, Builtin.max2], .int _ _⟩
  · cases hl
variable (hT : ∀ t i, T t = some i → tabOf P t = some i)
include hT
theorem convert_sound {s d : TypeId} {x x' v : Value} (hl : aConvert T s d x = some v) (hx : VR ρ x x') (w : World) : ∃ v', (convert s d x').run P w = .ok v' w ∧ VR ρ v v' := by
  unfold aConvert at hl
  split at hl
  · rename_i i j hi hj
    obtain ⟨d1, hd1, hu1⟩ := und (tsp hT hi)
    obtain ⟨d2, hd2, hu2⟩ := und (tsp hT hj)
    split at hl
    · rename_i k1 k2 k n e1 e2
      rw [hu1] at e1; rw [hu2] at e2
      obtain rfl := udOf_int e1.symm; obtain rfl := udOf_int e2.symm
      cases hl; obtain rfl := int_inv hx
      exact ⟨_, by simp [convert, run_underlying hd1, run_underlying hd2, Conv.intToInt], .int _ _⟩
    · rename_i sx e1 e2
      rw [hu1] at e1; rw [hu2] at e2
      obtain rfl := udOf_string e1.symm; obtain rfl := udOf_string e2.symm
      cases hl; obtain rfl := string_inv hx
      exact ⟨_, by simp [convert, run_underlying hd1, run_underlying hd2], .string _⟩
    · cases hl
  · cases hl
theorem builtin_sound (H : HR okc ρ h w) {b : Builtin} {ts : Array TypeId} {ty : TypeId} {cs : Array Bool} {args : List Value} {args' : Array Value} {r : AR} (hl : aBuiltin T h b ts args = some r) (ha : VL ρ args args'.toList) :
    StepR okc P ρ h w ((builtin b ts ty cs args').run P w) r := by
  unfold aBuiltin at hl
  split at hl
  · rename_i t xt s x hts
    obtain ⟨p, hp, rfl⟩ := vh_inv hl
    obtain ⟨s', x', rfl, hs, hx⟩ := list2 ha rfl
    obtain rfl := arr2 hts
    exact stepG (append_sound hT H hp hs hx)
  · rename_i t x hts
    obtain ⟨v, hv, rfl⟩ := vv_inv hl
    obtain ⟨x', rfl, hx⟩ := list1 ha rfl
    obtain rfl := arr1 hts
    exact stepVal H (len_sound hT H hv hx)
  · rename_i t kt m k hts
    cases hd : aDelete T h t m k with
    | none => rw [hd] at hl; cases hl
    | some h' =>
      rw [hd] at hl; cases hl
      obtain ⟨m', k', rfl, hm, hk⟩ := list2 ha rfl
      obtain rfl := arr2 hts
      exact stepG (delete_sound hT H hd hm hk)
  · obtain ⟨v, hv, rfl⟩ := vv_inv hl
    exact stepVal H (min_sound (ts := ts) (ty := ty) (mx := false) hv ha w)
  · obtain ⟨v, hv, rfl⟩ := vv_inv hl
    exact stepVal H (min_sound (ts := ts) (ty := ty) (mx := true) hv ha w)
  · cases hl
theorem op_sound (H : HR okc ρ h w) (hf : FrR ρ fr a.tmps) (hg : Glob ng ρ) {o : Oper} {r : AR} (ok : okOp ng o.op = true) (hl : aOp T fr h o.op = some r) :
    StepR okc P ρ h w ((execOp a.eval o).run P w) r := by
  have ev1 := fun {x : Operand} => ev_rel (x := x) hf hg
  unfold okOp at ok
  unfold execOp
  cases ho : o.op with
  | move x =>
    rw [ho] at ok hl
    simp only [aOp] at hl; cases hl
    simp only [Op.operands, List.all_cons, List.all_nil, Bool.and_true] at ok
    exact .val (.inl rfl) (ev1 ok) H (.refl _ _ _)
  | assign x =>
    rw [ho] at ok hl
    simp only [aOp] at hl; cases hl
    simp only [Op.operands, List.all_cons, List.all_nil, Bool.and_true] at ok
    exact .val (.inl rfl) (ev1 ok) H (.refl _ _ _)
  | pick c x y =>
    rw [ho] at ok hl
    simp only [Op.operands, List.all_cons, List.all_nil, Bool.and_true, Bool.and_eq_true] at ok
    simp only [aOp] at hl
    have hc := ev1 ok.1
    split at hl
    · rename_i t ht
      cases hl
      rw [ht] at hc
      simp only [bool_inv hc, asBool, Sem.run_bind, Sem.run_pure, Result.andThen_ok]
      refine .val (.inl rfl) ?_ H (.refl _ _ _)
      split
      · exact ev1 ok.2.1
      · exact ev1 ok.2.2
    · cases hl
  | alloc t =>
    rw [ho] at ok hl
    simp only [aOp] at hl
    cases hi : T t with
    | none => rw [hi] at hl; cases hl
    | some i =>
      rw [hi] at hl; cases hl
      have s := tsp hT hi
      obtain ⟨h1, h2⟩ := new_spec H i.zero.cells.toList i.zero.cells.toList i.zero.cells t 0 (PL.cl_zero s.flat) List.take_length
      refine stepG ⟨_, .pointer (some ⟨w.heap.size, 0, none⟩), _, ?_, ?_, h1, h2⟩
      · simp [Instr.alloc, s.zeroValue, newVar, newRow]
      · exact VR.ptr (e := ⟨w.heap.size, 0, i.zero.cells.size, 0, true, none⟩) (Ren.add_new _ _ _)
  | box t x =>
    rw [ho] at ok hl
    simp only [Op.operands, List.all_cons, List.all_nil, Bool.and_true] at ok
    simp only [aOp] at hl
    split at hl
    · rename_i hn
      cases hl
      have hc := (ev1 ok).cells hn
      obtain ⟨h1, h2⟩ := new_spec H (ev fr x).cells.toList (a.eval x).cells.toList (a.eval x).cells t 0 hc (by rw [hc.1, List.take_length])
      refine stepG ⟨_, .pointer (some ⟨w.heap.size, 0, none⟩), _, ?_, ?_, h1, h2⟩
      · simp [Instr.box, newVar, newRow]
      · exact VR.ptr (e := ⟨w.heap.size, 0, (a.eval x).cells.size, 0, true, none⟩) (Ren.add_new _ _ _)
    · cases hl
  | build t parts =>
    rw [ho] at ok hl
    simp only [Op.operands] at ok
    simp only [aOp] at hl
    obtain ⟨v, hv, rfl⟩ := vv_inv hl
    have hp := parts_rel (xs := parts.toList) hf hg (by simpa using ok)
    have := build_sound (P := P) hT hv hp w
    refine stepVal H ?_
    have e1 : (parts.map fun (i, x) => (i, a.eval x)) = (parts.toList.map fun p => (p.1, a.eval p.2)).toArray := by apply Array.ext'; simp
    rw [e1]; exact this
  | buildSlice t len parts =>
    rw [ho] at ok hl
    simp only [Op.operands] at ok
    simp only [aOp] at hl
    obtain ⟨v, hv, rfl⟩ := vh_inv hl
    have hp := parts_rel (xs := parts.toList) hf hg (by simpa using ok)
    have := buildSlice_sound (P := P) hT H hv hp
    refine stepG ?_
    have e1 : (parts.map fun (i, x) => (i, a.eval x)) = (parts.toList.map fun p => (p.1, a.eval p.2)).toArray := by apply Array.ext'; simp
    rw [e1]; exact this
  | load t x =>
    rw [ho] at ok hl
    simp only [Op.operands, List.all_cons, List.all_nil, Bool.and_true] at ok
    simp only [aOp] at hl
    obtain ⟨v, hv, rfl⟩ := vv_inv hl
    exact stepVal H (load_sound hT H hv (ev1 ok))
  | store t x y =>
    rw [ho] at ok hl
    simp only [Op.operands, List.all_cons, List.all_nil, Bool.and_true, Bool.and_eq_true] at ok
    simp only [aOp] at hl
    obtain ⟨h', hv, rfl⟩ := uh_inv hl
    obtain ⟨w', h1, h2, h3⟩ := store_sound (P := P) H hT hv (ev1 ok.1) (ev1 ok.2)
    exact stepU ⟨ρ, w', h1, h2, h3⟩
  | nilCheck x =>
    rw [ho] at ok hl
    simp only [Op.operands, List.all_cons, List.all_nil, Bool.and_true] at ok
    simp only [aOp] at hl
    have hx := ev1 ok
    dsimp only
    generalize a.eval x = z at hx ⊢
    split at hl
    · rename_i ad hv
      cases hl
      rw [hv] at hx
      obtain ⟨e, he, hs, rfl⟩ := ptr_inv hx
      exact .val (.inl rfl) hx H (.refl _ _ _)
    · rename_i f p q hv
      cases hl
      rw [hv] at hx
      have h0 := hx
      cases hx with
      | func _ _ p' _ q' a1 a2 a3 a4 => exact .val (.inl rfl) h0 H (.refl _ _ _)
    · cases hp : ppOf (ev fr x) with
      | none => rw [hp] at hl; cases hl
      | some v =>
        rw [hp] at hl
        cases hl
        obtain ⟨_, _, _, _, _, _, rfl, _⟩ := pp_inv hp hx
        exact .val (.inl rfl) hx H (.refl _ _ _)
  | binOp op t x y yt =>
    rw [ho] at ok hl
    simp only [Op.operands, List.all_cons, List.all_nil, Bool.and_true, Bool.and_eq_true] at ok
    simp only [aOp] at hl
    obtain ⟨v, hv, rfl⟩ := vv_inv hl
    exact stepVal H (aBin_sound hT hv (ev1 ok.1) (ev1 ok.2) w)
  | unOp op t x =>
    rw [ho] at ok hl
    simp only [Op.operands, List.all_cons, List.all_nil, Bool.and_true] at ok
    simp only [aOp] at hl
    obtain ⟨v, hv, rfl⟩ := vv_inv hl
    obtain ⟨h1, h2⟩ := pureV_run hv P w
    refine stepVal H ⟨v, ?_, .simple h2⟩
    have hx := ev1 ok
    generalize ev fr x = y at hx h1 hv
    generalize a.eval x = z at hx ⊢
    cases hx <;> first | exact h1 | (cases op <;> simp [Op.unary, pureV, unsupported, stuck] at hv)
  | convert s d x =>
    rw [ho] at ok hl
    simp only [Op.operands, List.all_cons, List.all_nil, Bool.and_true] at ok
    simp only [aOp] at hl
    obtain ⟨v, hv, rfl⟩ := vv_inv hl
    exact stepVal H (convert_sound hT hv (ev1 ok) w)
  | makeInterface t x =>
    rw [ho] at ok hl
    simp only [Op.operands, List.all_cons, List.all_nil, Bool.and_true] at ok
    simp only [aOp] at hl
    split at hl
    · rename_i i hi
      obtain ⟨d, hd, hud⟩ := und (tsp hT hi)
      split at hl
      · cases hl
      · rename_i hn
        cases hl
        refine stepVal H ⟨.iface t (a.eval x), ?_, .iface _ _ _ (ev1 ok)⟩
        rw [hud] at hn
        cases d <;> first | exact (hn rfl).elim | simp [Instr.makeInterface, run_underlying hd]
    · cases hl
  | makeFunc fn p q =>
    rw [ho] at ok hl
    simp only [Op.operands, Array.toList_append, List.all_append, Bool.and_eq_true] at ok
    simp only [aOp] at hl
    split at hl
    · rename_i f
      cases hl
      refine stepVal H ⟨_, by simp [Instr.makeFunc]; rfl, ?_⟩
      have h1 := evs_rel hf hg ok.1
      have h2 := evs_rel hf hg ok.2
      rw [← Array.toList_map, ← Array.toList_map] at h1 h2
      obtain ⟨a1, a2⟩ := vl_arr.1 h1
      obtain ⟨b1, b2⟩ := vl_arr.1 h2
      exact .func f _ _ _ _ a1 b1 a2 b2
    · cases hl
  | makeMap t x =>
    rw [ho] at ok hl
    simp only [aOp] at hl
    cases x with
    | some x => cases hl
    | none =>
      cases hl
      obtain ⟨h1, h2⟩ := H.push (.map #[] 0) (.map [] [] 0) ⟨w.heap.size, 0, 0, 0, true, none⟩ rfl rfl ⟨rfl, #[], heap_alloc_at w _, .nil, rfl, by simp, by simp⟩
      refine stepG ⟨_, .map (some w.heap.size), _, ?_, ?_, h1, h2⟩
      · simp [Instr.makeMap]
      · exact VR.map (e := ⟨w.heap.size, 0, 0, 0, true, none⟩) (Ren.add_new _ _ _)
  | makeSlice t x y =>
    rw [ho] at ok hl
    simp only [Op.operands, List.all_cons, List.all_nil, Bool.and_true, Bool.and_eq_true] at ok
    simp only [aOp] at hl
    obtain ⟨p, hv, rfl⟩ := vh_inv hl
    exact stepG (makeSlice_sound hT H hv (ev1 ok.1) (ev1 ok.2))
  | slice t x lo hi mx =>
    rw [ho] at ok hl
    simp only [Op.operands, Array.toList_append, List.all_append, Bool.and_eq_true] at ok
    simp only [aOp] at hl
    obtain ⟨v, hv, rfl⟩ := vv_inv hl
    exact stepVal H (slice_sound hT H hv (ev1 (by simpa using ok.1.1.1)) (opt_rel hf hg ok.1.1.2) (opt_rel hf hg ok.1.2) (opt_rel hf hg ok.2))
  | fieldAddr t x f =>
    rw [ho] at ok hl
    simp only [Op.operands, List.all_cons, List.all_nil, Bool.and_true] at ok
    simp only [aOp] at hl
    obtain ⟨v, hv, rfl⟩ := vv_inv hl
    exact stepVal H (fieldAddr_sound hT hv (ev1 ok) w)
  | field t x f =>
    rw [ho] at ok hl
    simp only [Op.operands, List.all_cons, List.all_nil, Bool.and_true] at ok
    simp only [aOp] at hl
    obtain ⟨v, hv, rfl⟩ := vv_inv hl
    exact stepVal H (field_sound hT hv (ev1 ok) w)
  | indexAddr t x i =>
    rw [ho] at ok hl
    simp only [Op.operands, List.all_cons, List.all_nil, Bool.and_true, Bool.and_eq_true] at ok
    simp only [aOp] at hl
    obtain ⟨v, hv, rfl⟩ := vv_inv hl
    exact stepVal H (indexAddr_sound hT hv (ev1 ok.1) (ev1 ok.2) w)
  | index t x i =>
    rw [ho] at ok hl
    simp only [Op.operands, List.all_cons, List.all_nil, Bool.and_true, Bool.and_eq_true] at ok
    simp only [aOp] at hl
    obtain ⟨v, hv, rfl⟩ := vv_inv hl
    exact stepVal H (index_sound hT hv (ev1 ok.1) (ev1 ok.2) w)
  | lookup t m k c =>
    rw [ho] at ok hl
    simp only [Op.operands, List.all_cons, List.all_nil, Bool.and_true, Bool.and_eq_true] at ok
    simp only [aOp] at hl
    obtain ⟨v, hv, rfl⟩ := vv_inv hl
    exact stepVal H (lookup_sound hT H hv (ev1 ok.1) (ev1 ok.2))
  | mapUpdate t m k v =>
    rw [ho] at ok hl
    simp only [Op.operands, List.all_cons, List.all_nil, Bool.and_true, Bool.and_eq_true] at ok
    simp only [aOp] at hl
    obtain ⟨h', hv, rfl⟩ := uh_inv hl
    exact stepU (mapUpdate_sound hT H hv (ev1 ok.1) (ev1 ok.2.1) (ev1 ok.2.2))
  | extract x i =>
    rw [ho] at ok hl
    simp only [Op.operands, List.all_cons, List.all_nil, Bool.and_true] at ok
    simp only [aOp] at hl
    have hx := ev1 ok
    split at hl
    · rename_i vs hvs
      obtain ⟨v, hv, rfl⟩ := vv_inv hl
      rw [hvs] at hx
      obtain ⟨vs', h2⟩ : ∃ z, a.eval x = .tuple z := by
        generalize a.eval x = z at hx
        cases hx; exact ⟨_, rfl⟩
      rw [h2] at hx
      obtain ⟨v', hv', hR⟩ := (VR.tuple_iff.1 hx).get (by simpa using hv : vs.toList[i]? = some v)
      refine stepVal H ⟨v', ?_, hR⟩
      have : vs'[i]? = some v' := by simpa using hv'
      simp [h2, Instr.extract, this]
    · cases hl
  | range t x =>
    rw [ho] at ok hl
    simp only [Op.operands, List.all_cons, List.all_nil, Bool.and_true] at ok
    simp only [aOp] at hl
    exact range_sound' hT H hl (ev1 ok)
  | next x str =>
    rw [ho] at ok hl
    simp only [Op.operands, List.all_cons, List.all_nil, Bool.and_true] at ok
    simp only [aOp] at hl
    cases str with
    | true => simp at hl
    | false =>
      simp only [Bool.false_eq_true, if_false] at hl
      exact next_sound H hl (ev1 ok)
  | entry x =>
    rw [ho] at ok hl
    simp only [Op.operands, List.all_cons, List.all_nil, Bool.and_true] at ok
    simp only [aOp] at hl
    exact entry_sound H hl (ev1 ok)
  | panic x =>
    rw [ho] at ok hl
    simp only [Op.operands, List.all_cons, List.all_nil, Bool.and_true] at ok
    simp only [aOp] at hl
    have hx := ev1 ok
    split at hl
    · rename_i t v hv
      cases hl
      rw [hv] at hx
      obtain ⟨v', h2⟩ : ∃ z, a.eval x = .iface t z := by
        generalize a.eval x = z at hx
        cases hx; exact ⟨_, rfl⟩
      rw [h2] at hx
      simp only [h2, Instr.panic, Sem.run_bind, run_goPanic]
      exact .panic hx
    · cases hl
  | call c =>
    rw [ho] at ok hl
    simp only [Op.operands, Call.operands, Array.toList_append, List.all_append, Bool.and_eq_true] at ok
    simp only [aOp] at hl
    have hargs := evs_rel hf hg ok.2
    rw [← Array.toList_map] at hargs
    split at hl
    · rename_i f hc
      have hfv := ev1 (x := f) (by have := ok.1; rw [hc] at this; simpa using this)
      unfold callV at hl
      split at hl
      · rename_i g first cap hv
        cases hl
        rw [hv] at hfv
        obtain ⟨p', q', h2⟩ : ∃ p q, a.eval f = .func (.func g) p q := by
          generalize a.eval f = z at hfv
          cases hfv; exact ⟨_, _, rfl⟩
        rw [h2] at hfv
        have hpq : VL ρ first.toList p'.toList ∧ VL ρ cap.toList q'.toList := by
          cases hfv with
          | func _ _ _ _ _ a1 a2 a3 a4 => exact ⟨vl_arr.2 ⟨a1, a3⟩, vl_arr.2 ⟨a2, a4⟩⟩
        refine .call (args' := p' ++ c.args.map a.eval ++ q') ?_ ?_
        · rw [Array.toList_append, Array.toList_append]
          simpa using (hpq.1.append hargs).append hpq.2
        · rintro ⟨fn, hfn, hb, hnm⟩
          have hb' : fn.body ≠ none := by intro hx; rw [hx] at hb; simp at hb
          simp [resolve, hc, h2, Deferred.ofValue, invoke, callFunc, hfn, hb', hnm]
      · rename_i l first cap hv
        split at hl
        · rename_i hsz
          cases hl
          rw [hv] at hfv
          obtain ⟨e, he, h2⟩ : ∃ e, ρ l = some e ∧ a.eval f = .func (.yield e.blk) #[] #[] := by
            generalize a.eval f = z at hfv
            clear hv
            cases hfv <;> first | exact ⟨_, by assumption, rfl⟩ | (have := hsz.1; simp at this)
          refine .yield (args' := c.args.map a.eval) he (by simpa using hargs) ?_
          simp [resolve, hc, h2, Deferred.ofValue, invoke]
        · cases hl
      · cases hl
    · rename_i b hc
      simp only [resolve, hc, invoke, Sem.run_bind, Sem.run_pure, Result.andThen_ok]
      exact builtin_sound (P := P) hT H hl (by simpa using hargs)
    · cases hl
  | _ => rw [ho] at hl; simp [aOp] at hl
end
end Go.AI
