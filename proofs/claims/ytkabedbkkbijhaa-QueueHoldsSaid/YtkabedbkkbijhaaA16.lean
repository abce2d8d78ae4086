/-
  CODE, ROUNDS, FUNCTIONS: the interpreter's word holds of the model. (Own work.)
-/
import Derived.Test.YtkabedbkkbijhaaA15
import Derived.RangeFuncRecord
import Derived.LoopNIn
namespace Go.AI
open Go.RowKit

def rok (r : Bool) : Code → Bool
  | .seq a b => rok r a && rok r b
  | .cond _ a b => rok r a && rok r b
  | .block _ b => rok r b
  | .loop b => rok r b
  | .rangeFunc _ _ a b => r && rok false a && rok false b
  | _ => true
def okcOf (ng : Nat) : Nat → Code → XC → Prop := fun nt c x => okCode ng nt c = true ∧ rok false c = true ∧ x = xOf c
section
variable {okc : Nat → Code → XC → Prop} {ng nt lo : Nat} {P : Program} {T : Tab} {ρ ρ0 ρ1 : Ren} {fr : Fr} {h h0 h1 : AH} {a : Act} {w w0 w1 w' : World} {rd : Option Nat}
/-! ### the heap, once more -/
theorem HR.close (H : HR okc ρ h w) {B : Nat} {e : Ent} {o : AObj} (hB : h.get B = some o) (ho : owned o = true) (he : ρ B = some e) (hsz : w'.heap.size = w.heap.size) (hos : w'.os = w.os) (htp : w'.tape = w.tape) (hout : w'.output = w.output)
    (hne : ∀ k, k ≠ e.blk → w'.heap[k]? = w.heap[k]?) : HR okc ρ (h.set B .dead) w' ∧ Ext ρ h w ρ (h.set B .dead) w' := by
  have hg := AH.get_set hB .dead
  have hget : ∀ C p, (h.set B .dead).get C = some p → (C = B ∧ p = .dead) ∨ (C ≠ B ∧ h.get C = some p) := fun C p hC => by
    rw [hg] at hC
    by_cases x : C = B
    · rw [if_pos x] at hC; cases hC; exact .inl ⟨x, rfl⟩
    · rw [if_neg x] at hC; exact .inr ⟨x, hC⟩
  have hown : ∀ k, Own ρ (h.set B .dead) k → Own ρ h k := by
    rintro k ⟨C, f, p, hC, hp, hop, hf⟩
    rcases hget C p hp with ⟨_, rfl⟩ | ⟨_, hp'⟩
    · simp [owned] at hop
    · exact ⟨C, f, p, hC, hp', hop, hf⟩
  have E : Ext ρ h w ρ (h.set B .dead) w' := ⟨.refl _, by simp, fun _ _ => rfl, by omega, hos, htp, hout, fun k _ hk => ⟨hne k (fun x => hk ⟨B, e, o, he, hB, ho, x.symm⟩), fun x => hk (hown k x)⟩⟩
  refine ⟨⟨fun C f hC => by rw [AH.n_set]; exact H.dom C f hC, fun C f hC => by rw [hsz]; exact H.lt C f hC, ?_, ?_, ?_, H.frz_ext E fun _ _ x => .inl x⟩, E⟩
  · intro C p f hp hf
    rcases hget C p hp with ⟨_, rfl⟩ | ⟨x, hp'⟩
    · exact .inl rfl
    · rcases H.obj C p f hp' hf with y | hor
      · exact .inl y
      · by_cases hown1 : owned p = true
        · exact .inr (hor.mono (.refl _) (hne _ fun y => x (H.inj C B f e p o hp' hB hown1 ho hf he y)))
        · cases p with
          | row cs rw sz =>
            simp [owned] at hown1
            subst hown1
            exact .inr (hor.mono (.refl _) (hne _ fun y => H.ro C f cs sz hp' hf ⟨B, e, o, he, hB, ho, y.symm⟩))
          | map es bs clk => simp [owned] at hown1
          | iter m si se st => simp [owned] at hown1
          | loop r => simp [owned] at hown1
          | dead => exact .inl rfl
  · intro C C' f f' p p' hp hp' hop hop' hf hf' hbb
    rcases hget C p hp with ⟨_, rfl⟩ | ⟨x, hp1⟩
    · simp [owned] at hop
    rcases hget C' p' hp' with ⟨_, rfl⟩ | ⟨y, hp2⟩
    · simp [owned] at hop'
    exact H.inj C C' f f' p p' hp1 hp2 hop hop' hf hf' hbb
  · intro C f cs sz hp hf hown'
    rcases hget C _ hp with ⟨_, y⟩ | ⟨_, hp1⟩
    · cases y
    · exact H.ro C f cs sz hp1 hf (hown _ hown')
/-- A block that the interpreter does not see. -/
theorem HR.lay (H : HR okc ρ h w) (O : Obj) : HR okc ρ h (w.alloc O) ∧ Ext ρ h w ρ h (w.alloc O) ∧ ¬ Own ρ h w.heap.size := by
  have hno : ¬ Own ρ h w.heap.size := by
    rintro ⟨B, e, o, hB, _, _, hf⟩
    have := H.lt B e hB
    omega
  have E : Ext ρ h w ρ h (w.alloc O) := ⟨.refl _, Nat.le_refl _, fun _ _ => rfl, by simp, rfl, rfl, rfl, fun k hk ho => ⟨heap_alloc_lt w O hk, ho⟩⟩
  exact ⟨⟨H.dom, fun B e hB => by have := H.lt B e hB; simp; omega, fun B o e hB he => (H.obj B o e hB he).imp id fun x => x.mono (.refl _) (heap_alloc_lt w O (H.lt B e he)), H.inj, H.ro, H.frz_ext E fun _ _ x => .inl x⟩, E, hno⟩
theorem OR.other {e : Ent} {o : AObj} {k : Nat} {ds : Option (List Deferred)} (hr : OR okc ρ w e o) (hd : o ≠ .dead) (hk : w.heap[k]? = some (.deferred ds)) : e.blk ≠ k := by
  intro x
  subst x
  cases o with
  | row cs rw sz => obtain ⟨_, _, arr, t, fz, hh, _⟩ := hr; rw [hh] at hk; cases hk
  | map es bs clk => obtain ⟨_, ces, hh, _⟩ := hr; rw [hh] at hk; cases hk
  | iter m si se st => obtain ⟨_, _, m', hh, _⟩ := hr; rw [hh] at hk; cases hk
  | loop r => obtain ⟨_, L, hh, _⟩ := hr; rw [hh] at hk; cases hk
  | dead => exact hd rfl
theorem HR.shut (H : HR okc ρ h w) {k : Nat} {ds ds' : Option (List Deferred)} (hk : w.heap[k]? = some (.deferred ds)) : HR okc ρ h (w.putObj k (.deferred ds')) := by
  refine ⟨H.dom, fun B e hB => by simp; exact H.lt B e hB, fun B o e hB he => ?_, H.inj, H.ro, fun B e arr he hf => ?_⟩
  case refine_2 =>
    obtain ⟨⟨t, fz, hh⟩, ho⟩ := H.frz B e arr he hf
    have hne : e.blk ≠ k := fun x => by rw [x, hk] at hh; cases hh
    exact ⟨⟨t, fz, (World.putObj_heap_other hne).trans hh⟩, ho⟩
  rcases H.obj B o e hB he with x | x
  · exact .inl x
  · by_cases hd : o = .dead
    · exact .inl hd
    · exact .inr (x.mono (.refl _) (World.putObj_heap_other (x.other hd hk)))
/-! ### a row that is given up -/
theorem fz_rel {b off0 : Nat} {cs : List Value} {k : Nat} {e e' : Ent} {arr : Array Value} {B' : Nat} (hs : Sub ρ ρ0) (he : ρ b = some e) (he' : ρ0 B' = some e') (hf : e'.frz = some arr) (hblk : e'.blk = e.blk) (hoff : off0 = e.off)
    (hc : CL ρ cs ((arr.toList.drop off0).take cs.length)) (hl : off0 + cs.length ≤ arr.size) {v u : Value} (hz : FZ b cs k v u) : ∀ {v' : Value}, VR ρ v v' → VR ρ0 u v' := by
  induction hz with
  | refl v => exact fun h => h.mono hs
  | nil k' => intro v' hv; cases hv; exact .ps0 _ k'
  | @sl off n c els hn hb hk =>
    intro v' hv
    obtain ⟨e1, ca, ccap, rfl, he1, _, hle, _, ha, _⟩ := sl_inv hv
    rw [he] at he1
    cases he1
    have hps : ∀ c, PS k els = .func (.yield 0) #[.int .i64 k] c → c = els.toArray := fun c h => by cases h; rfl
    cases els with
    | nil =>
      simp at hn; subst hn
      exact .ps1 _ k ca ccap (fun e => by cases e)
    | cons y ys =>
      have hpos : 0 < n := by rw [← hn]; simp
      obtain rfl : ca = ⟨e.blk, e.off + off, none⟩ := by
        rcases ha with x | x
        · omega
        · exact x
      subst hoff
      have cell : ∀ (i j : Nat) (v c c' : Value), (y :: ys)[i]? = some v → v.cells[j]? = some c → arr[e.off + off + i * k + j]? = some c' → VC ρ c c' := by
        intro i j v c c' hi hj hc'
        obtain ⟨k1, k2, k3⟩ := hk i v hi
        have hjk : j < k := by rw [← k1]; exact (Array.getElem?_eq_some_iff.1 hj).1
        have h1 : cs[off + i * k + j]? = some c := by
          have : (v.cells.toList)[j]? = some c := by simpa using hj
          rw [← k3, List.getElem?_take, if_pos hjk, List.getElem?_drop] at this
          exact this
        have hlt := (List.getElem?_eq_some_iff.1 h1).1
        refine hc.2 _ c c' h1 ?_
        rw [List.getElem?_take, if_pos hlt, List.getElem?_drop, Array.getElem?_toList, ← hc']
        congr 1; omega
      have key := VR.ps (ρ := ρ0) (l := 0) (off := e.off + off) (k := k) (ccap := ccap) (els := (y :: ys).toArray) (fun e => by cases e) he' hf (by simp at hn ⊢; omega) (by simp at hn ⊢; rw [hn]; omega)
        (fun i v hi => let h := hk i v (by simpa using hi); ⟨h.1, h.2.1⟩) (fun i j v c c' hi hj hc' => (cell i j v c c' (by simpa using hi) hj hc').1.mono hs) (fun i j v c c' hi hj hc' => (cell i j v c c' (by simpa using hi) hj hc').2)
      rw [hblk] at key
      have hsz : (y :: ys).toArray.size = n := by simpa using hn
      rw [hsz] at key
      exact key
  | @agg p q hl' _ ih =>
    intro v' hv
    cases hv with
    | agg _ p' a1 a2 a3 =>
      refine .agg _ _ (hl'.symm.trans a1) (fun i x y hx hy => ?_) a3
      have hi : i < p.size := by rw [hl']; exact (Array.getElem?_eq_some_iff.1 hx).1
      exact ih i _ _ (Array.getElem?_eq_getElem hi) hx (a2 i _ _ (Array.getElem?_eq_getElem hi) hy)
  | @tuple p q hl' _ ih =>
    intro v' hv
    cases hv with
    | tuple _ p' a1 a2 =>
      refine .tuple _ _ (hl'.symm.trans a1) (fun i x y hx hy => ?_)
      have hi : i < p.size := by rw [hl']; exact (Array.getElem?_eq_some_iff.1 hx).1
      exact ih i _ _ (Array.getElem?_eq_getElem hi) hx (a2 i _ _ (Array.getElem?_eq_getElem hi) hy)
theorem OFZ.owned {b : Nat} {cs : List Value} {k : Nat} {o o' : AObj} (h : OFZ b cs k o o') : owned o' = owned o := by cases h <;> rfl
theorem gs_none {fr fr1 : Fr} {h h1 : AH} {b k : Nat} {cs : List Value} (H : HR okc ρ h w) (he : ρ b = none) (hf : ∀ t, FZ b cs k (fr t) (fr1 t)) (hn : h.n ≤ h1.n) (hgn : ∀ C p, h1.get C = some p → p = .dead ∨ ∃ o, h.get C = some o ∧ OFZ b cs k o p) :
    ∃ ρ', HR okc ρ' h1 w ∧ Ext ρ h w ρ' h1 w ∧ ∀ t v', VR ρ (fr t) v' → VR ρ' (fr1 t) v' := by
  -- no one has it
  have fz : ∀ {v u : Value}, FZ b cs k v u → ∀ {v' : Value}, VR ρ v v' → VR ρ u v' := by
    intro v u hz
    induction hz with
    | refl v => exact fun h => h
    | nil k' => intro v' hv; cases hv; exact .ps0 _ k'
    | sl => intro v' hv; obtain ⟨e1, _, _, _, he1, _⟩ := sl_inv hv; rw [he] at he1; cases he1
    | @agg p q hl' _ ih =>
      intro v' hv
      cases hv with
      | agg _ p' a1 a2 a3 =>
        refine .agg _ _ (hl'.symm.trans a1) (fun i x y hx hy => ?_) a3
        have hi : i < p.size := by rw [hl']; exact (Array.getElem?_eq_some_iff.1 hx).1
        exact ih i _ _ (Array.getElem?_eq_getElem hi) hx (a2 i _ _ (Array.getElem?_eq_getElem hi) hy)
    | @tuple p q hl' _ ih =>
      intro v' hv
      cases hv with
      | tuple _ p' a1 a2 =>
        refine .tuple _ _ (hl'.symm.trans a1) (fun i x y hx hy => ?_)
        have hi : i < p.size := by rw [hl']; exact (Array.getElem?_eq_some_iff.1 hx).1
        exact ih i _ _ (Array.getElem?_eq_getElem hi) hx (a2 i _ _ (Array.getElem?_eq_getElem hi) hy)
  have hown : ∀ j, Own ρ h1 j → Own ρ h j := by
    rintro j ⟨C, f, p, hC, hp, hop, hf'⟩
    rcases hgn C p hp with rfl | ⟨o, ho', hoz⟩
    · simp [owned] at hop
    · exact ⟨C, f, o, hC, ho', hoz.owned ▸ hop, hf'⟩
  have E : Ext ρ h w ρ h1 w := ⟨.refl _, by omega, fun _ _ => rfl, Nat.le_refl _, rfl, rfl, rfl, fun j _ hj => ⟨rfl, fun x => hj (hown j x)⟩⟩
  refine ⟨ρ, ⟨fun C f hC => by have := H.dom C f hC; omega, H.lt, ?_, ?_, ?_, H.frz_ext E fun _ _ x => .inl x⟩, E, fun t v' x => fz (hf t) x⟩
  · intro C p f hp hf'
    rcases hgn C p hp with rfl | ⟨o, ho', hoz⟩
    · exact .inl rfl
    · rcases H.obj C o f ho' hf' with x | x
      · subst x; cases hoz; exact .inl rfl
      · cases hoz with
        | refl o => exact .inr x
        | row hl' hz =>
          obtain ⟨q1, q2, arr, t, fz', q3, q4, q5, q6, q7⟩ := x
          refine .inr ⟨q1, q2, arr, t, fz', q3, q4, q5, ?_, by rw [← hl']; exact q7⟩
          rw [← hl']
          refine ⟨hl'.symm.trans q6.1, fun i x y hx hy => ?_⟩
          rename_i xs ys rw' sz'
          have hi : i < xs.length := by rw [hl']; exact (List.getElem?_eq_some_iff.1 hx).1
          have hv := q6.2 i _ y (List.getElem?_eq_getElem hi) hy
          exact ⟨fz (hz i _ x (List.getElem?_eq_getElem hi) hx) hv.1, hv.2⟩
  · intro C C' f f' p p' hp hp' hop hop' hf1 hf1' hbb
    rcases hgn C p hp with rfl | ⟨o, ho1, hoz⟩
    · simp [owned] at hop
    rcases hgn C' p' hp' with rfl | ⟨o', ho1', hoz'⟩
    · simp [owned] at hop'
    exact H.inj C C' f f' o o' ho1 ho1' (hoz.owned ▸ hop) (hoz'.owned ▸ hop') hf1 hf1' hbb
  · intro C f xs sz' hp hf1 hown'
    rcases hgn C _ hp with x | ⟨o, ho1, hoz⟩
    · cases x
    · cases hoz with
      | refl => exact H.ro C f xs sz' ho1 hf1 (hown _ hown')
      | row _ _ => exact H.ro C f _ sz' ho1 hf1 (hown _ hown')
theorem gs_sound {fr fr' : Fr} {h h' : AH} (hg : Gs fr h fr' h') : ∀ {ρ : Ren}, HR okc ρ h w → ∃ ρ', HR okc ρ' h' w ∧ Ext ρ h w ρ' h' w ∧ ∀ t v', VR ρ (fr t) v' → VR ρ' (fr' t) v' := by
  induction hg with
  | refl fr h => exact fun H => ⟨_, H, .refl _ _ _, fun _ _ x => x⟩
  | @conv fr fr1 fr2 h h1 h2 b k cs hb hf hn ho _ ih =>
    intro ρ H
    have he : ρ b = none := by
      cases hx : ρ b with
      | none => rfl
      | some e => have := H.dom b e hx; omega
    obtain ⟨ρ1, H1, E1, V1⟩ := gs_none H he hf (by omega) fun C p hC => .inr (ho C p hC)
    obtain ⟨ρ2, H2, E2, V2⟩ := ih H1
    exact ⟨ρ2, H2, E1.trans E2, fun t v' x => V2 t v' (V1 t v' x)⟩
  | @step fr fr1 fr2 h h1 h2 b sz k cs hb hf hn ho hd hd2 _ ih =>
    intro ρ H
    have hblt := AH.get_lt hb
    have hgn : ∀ C p, h1.get C = some p → (p = .dead) ∨ (C ≠ b ∧ C < h.n ∧ ∃ o, h.get C = some o ∧ OFZ b cs k o p) := fun C p hC => by
      by_cases x : C = b
      · subst x; rw [hd] at hC; cases hC; exact .inl rfl
      · have hlt := AH.get_lt hC
        by_cases y : C < h.n
        · exact .inr ⟨x, y, ho C p x y hC⟩
        · obtain rfl : C = h.n := by omega
          rw [hd2] at hC; cases hC; exact .inl rfl
    suffices ∃ ρ', HR okc ρ' h1 w ∧ Ext ρ h w ρ' h1 w ∧ ∀ t v', VR ρ (fr t) v' → VR ρ' (fr1 t) v' by
      obtain ⟨ρ1, H1, E1, V1⟩ := this
      obtain ⟨ρ2, H2, E2, V2⟩ := ih H1
      exact ⟨ρ2, H2, E1.trans E2, fun t v' x => V2 t v' (V1 t v' x)⟩
    cases he : ρ b with
    | none => exact gs_none H he hf (by omega) fun C p hC => (hgn C p hC).imp id fun x => x.2.2
    | some e =>
      rcases H.obj _ _ _ hb he with x | x
      · cases x
      obtain ⟨q1, q2, arr, ty, fz', q3, q4, q5, q6, q7⟩ := x
      generalize hρ' : ρ.add h.n ⟨e.blk, 0, arr.size, 0, false, some arr⟩ = ρ'
      have hsub : Sub ρ ρ' := by rw [← hρ']; exact H.sub_add _
      have hnew : ρ' h.n = some ⟨e.blk, 0, arr.size, 0, false, some arr⟩ := by rw [← hρ']; exact Ren.add_new _ _ _
      have hcase : ∀ C f, ρ' C = some f → (C = h.n ∧ f = ⟨e.blk, 0, arr.size, 0, false, some arr⟩) ∨ (C ≠ h.n ∧ ρ C = some f) := fun C f hC => by
        rw [← hρ'] at hC
        unfold Ren.add at hC
        by_cases x : C = h.n
        · rw [if_pos x] at hC; cases hC; exact .inl ⟨x, rfl⟩
        · rw [if_neg x] at hC; exact .inr ⟨x, hC⟩
      have fz : ∀ {v u : Value}, FZ b cs k v u → ∀ {v' : Value}, VR ρ v v' → VR ρ' u v' := fun hz => fz_rel hsub he hnew rfl rfl rfl q6 q7 hz
      have hownb : ∀ j, Own ρ' h1 j → Own ρ h j ∧ j ≠ e.blk := by
        rintro j ⟨C, f, p, hC, hp, hop, hf'⟩
        rcases hgn C p hp with rfl | ⟨hCb, hCn, o, ho', hoz⟩
        · simp [owned] at hop
        · rcases hcase C f hC with ⟨x, _⟩ | ⟨_, hC'⟩
          · omega
          · refine ⟨⟨C, f, o, hC', ho', hoz.owned ▸ hop, hf'⟩, fun x => hCb ?_⟩
            exact H.inj C b f e o _ ho' hb (hoz.owned ▸ hop) rfl hC' he (hf'.trans x)
      have E : Ext ρ h w ρ' h1 w := ⟨hsub, by omega, fun C hC => by rw [← hρ']; unfold Ren.add; rw [if_neg (by omega)], Nat.le_refl _, rfl, rfl, rfl, fun j _ hj => ⟨rfl, fun x => hj (hownb j x).1⟩⟩
      refine ⟨ρ', ⟨?_, ?_, ?_, ?_, ?_, ?_⟩, E, fun t v' x => fz (hf t) x⟩
      · intro C f hC
        rcases hcase C f hC with ⟨x, _⟩ | ⟨_, hC'⟩
        · omega
        · have := H.dom C f hC'; omega
      · intro C f hC
        rcases hcase C f hC with ⟨_, rfl⟩ | ⟨_, hC'⟩
        · exact H.lt b e he
        · exact H.lt C f hC'
      · intro C p f hp hf'
        rcases hgn C p hp with rfl | ⟨_, hCn, o, ho', hoz⟩
        · exact .inl rfl
        rcases hcase C f hf' with ⟨x, _⟩ | ⟨_, hC'⟩
        · omega
        · rcases H.obj C o f ho' hC' with x | x
          · subst x; cases hoz; exact .inl rfl
          · cases hoz with
            | refl o => exact .inr (x.mono hsub rfl)
            | row hl' hz =>
              obtain ⟨q1, q2, arr, t, fz', q3, q4, q5, q6, q7⟩ := x
              refine .inr ⟨q1, q2, arr, t, fz', q3, q4, q5, ?_, by rw [← hl']; exact q7⟩
              rw [← hl']
              refine ⟨hl'.symm.trans q6.1, fun i x y hx hy => ?_⟩
              rename_i xs ys rw' sz'
              have hi : i < xs.length := by rw [hl']; exact (List.getElem?_eq_some_iff.1 hx).1
              have hv := q6.2 i _ y (List.getElem?_eq_getElem hi) hy
              exact ⟨fz (hz i _ x (List.getElem?_eq_getElem hi) hx) hv.1, hv.2⟩
      · intro C C' f f' p p' hp hp' hop hop' hf1 hf1' hbb
        rcases hgn C p hp with rfl | ⟨_, hCn, o, ho1, hoz⟩
        · simp [owned] at hop
        rcases hgn C' p' hp' with rfl | ⟨_, hCn', o', ho1', hoz'⟩
        · simp [owned] at hop'
        rcases hcase C f hf1 with ⟨x, _⟩ | ⟨_, hC1⟩
        · omega
        rcases hcase C' f' hf1' with ⟨x, _⟩ | ⟨_, hC2⟩
        · omega
        exact H.inj C C' f f' o o' ho1 ho1' (hoz.owned ▸ hop) (hoz'.owned ▸ hop') hC1 hC2 hbb
      · intro C f xs sz' hp hf1 hown'
        rcases hgn C _ hp with x | ⟨_, hCn, o, ho1, hoz⟩
        · cases x
        rcases hcase C f hf1 with ⟨x, _⟩ | ⟨_, hC1⟩
        · omega
        cases hoz with
        | refl => exact H.ro C f xs sz' ho1 hC1 (hownb _ hown').1
        | row _ _ => exact H.ro C f _ sz' ho1 hC1 (hownb _ hown').1
      · intro C f a1 hf1 hfr
        rcases hcase C f hf1 with ⟨_, rfl⟩ | ⟨_, hC1⟩
        · cases hfr
          exact ⟨⟨ty, fz', q3⟩, fun x => (hownb _ x).2 rfl⟩
        · obtain ⟨x1, x2⟩ := H.frz C f a1 hC1 hfr
          exact ⟨x1, fun x => x2 (hownb _ x).1⟩
/-! ### what code comes to -/
def LQ (ng nt lo : Nat) (ρ0 : Ren) (h0 : AH) (w0 : World) (Qx : XQ) : Exit → Act → World → Prop
  | .normal, a, w => ∃ ρ fr h, SR (okcOf ng) ng nt lo ρ fr h a w ∧ Ext ρ0 h0 w0 ρ h w ∧ Qx .norm fr h
  | .ret, a, w => ∃ ρ fr h, SR (okcOf ng) ng nt lo ρ fr h a w ∧ Ext ρ0 h0 w0 ρ h w ∧ Qx .ret fr h
  | .exit id, a, w => ∃ ρ fr h, SR (okcOf ng) ng nt lo ρ fr h a w ∧ Ext ρ0 h0 w0 ρ h w ∧ Qx (.exit id) fr h
  | .panic chain, a, w => ∃ ρ fr h v v', chain = [{ v := v', recovered := false }] ∧ VR ρ v v' ∧ SW (okcOf ng) ng lo ρ h a w ∧ Ext ρ0 h0 w0 ρ h w ∧ Qx (.panic v) fr h
  | _, _, _ => False
theorem LQ.trans {Qx : XQ} {e : Exit} (E : Ext ρ0 h0 w0 ρ1 h1 w1) (k : LQ ng nt lo ρ1 h1 w1 Qx e a w) : LQ ng nt lo ρ0 h0 w0 Qx e a w := by
  cases e with
  | normal => obtain ⟨ρ, fr, h, s, x, q⟩ := k; exact ⟨ρ, fr, h, s, E.trans x, q⟩
  | ret => obtain ⟨ρ, fr, h, s, x, q⟩ := k; exact ⟨ρ, fr, h, s, E.trans x, q⟩
  | exit id => obtain ⟨ρ, fr, h, s, x, q⟩ := k; exact ⟨ρ, fr, h, s, E.trans x, q⟩
  | panic c => obtain ⟨ρ, fr, h, v, v', e, hv, s, x, q⟩ := k; exact ⟨ρ, fr, h, v, v', e, hv, s, E.trans x, q⟩
  | goto l => exact k.elim
  | outgrown => exact k.elim
theorem cond_rel {c : Operand} {t : Bool} (S : SR okc ng nt lo ρ fr h a w) (ok : okOperand ng c = true) (hc : ev fr c = .bool t) : a.eval c = .bool t := by
  have := ev_rel S.fr S.glob ok
  rw [hc] at this
  generalize a.eval c = z at this
  cases this; rfl
theorem callRange {g : Operand} {l f : Nat} {p q : Array Value} (hb : HasBody P f) (hg : a.eval g = .func (.func f) p q) (w : World) :
    ∃ d args, (resolve a.eval (rangeCall g l) 0).run P w = .ok d w ∧ (invoke d.target d.args).run P w = .ok (.enter f args) w ∧ args = p ++ #[.func (.yield l) #[] #[]] ++ q := by
  obtain ⟨fn, hfn, hb, hnm⟩ := hb
  have hb' : fn.body ≠ none := by intro hx; rw [hx] at hb; simp at hb
  have hv : a.eval (.const (.func (.yield l) #[] #[])) = .func (.yield l) #[] #[] := rfl
  refine ⟨{ target := .fn (.func f) q, args := p ++ #[.func (.yield l) #[] #[]] }, _, ?_, ?_, rfl⟩
  · simp only [resolve, hg]
    simp [go_sem, Deferred.ofValue, hv]
  · simp [invoke, go_sem, callFunc, hfn, hb', hnm]
theorem List.map_injective_mark : ∀ {xs ys : List Nat}, xs.map mark = ys.map mark → xs = ys
  | [], [], _ => rfl
  | [], _ :: _, h => by simp at h
  | _ :: _, [], h => by simp at h
  | x :: xs, y :: ys, h => by
    simp only [List.map_cons, List.cons.injEq] at h
    have h1 : x = y := by have := h.1; simp [mark] at this; exact this
    rw [h1, List.map_injective_mark h.2]
theorem yielded_eq (l : Nat) (p q : Array Value) (p' q' : List Value) (hp : p.toList = p') (hq : q.toList = q') : (p ++ #[Value.func (.yield l) #[] #[]] ++ q).toList = p' ++ [.func (.yield l) #[] #[]] ++ q' := by
  simp [hp, hq]
/-- A loop's record, laid. -/
theorem range_sound {g : Operand} {ps : Array Tmp} {x y : Code} (ok : okCode ng nt (.rangeFunc g ps x y) = true) (hx : rok false x = true) (hy : rok false y = true) {Qx : XQ}
    (hlo : lo ≤ w.heap.size) (S : SR (okcOf ng) ng nt lo ρ fr h a w) (hw : xw T (AC (okcOf ng) ng P) (AY (okcOf ng) ng P) (xOf (.rangeFunc g ps x y)) fr h Qx) :
    (Code.rangeFunc g ps x y).wpIn (fence none) 0 P (LQ ng nt lo ρ h w Qx) a w := by
  simp only [okCode, Bool.and_eq_true, Array.all_eq_true_iff_forall_mem, decide_eq_true_eq] at ok
  obtain ⟨⟨⟨ok1, ok2⟩, ok3⟩, ok4⟩ := ok
  simp only [xOf, xw] at hw
  split at hw
  case h_2 => exact hw.elim
  rename_i f p q hg
  obtain ⟨hb, hc⟩ := hw
  have hgv := ev_rel S.fr S.glob ok1
  rw [hg] at hgv
  obtain ⟨p', q', h2⟩ : ∃ p q, a.eval g = .func (.func f) p q := by
    generalize a.eval g = z at hgv
    cases hgv; exact ⟨_, _, rfl⟩
  rw [h2] at hgv
  have hpq : VL ρ p.toList p'.toList ∧ VL ρ q.toList q'.toList := by
    cases hgv with
    | func _ _ _ _ _ a1 a2 a3 a4 => exact ⟨vl_arr.2 ⟨a1, a3⟩, vl_arr.2 ⟨a2, a4⟩⟩
  refine wpIn_rangeFunc ?_
  intro fn hfn
  show ∃ l mark w₁ d w₁' f args w₂, (Instr.enterLoop fn a.tmps ps x y none).run P w = _ ∧ _
  obtain ⟨HL, EL, noD⟩ := S.H.lay (.deferred (some []))
  generalize hrec : (⟨.ready, none, fn, a.tmps, ps, x, y, w.heap.size⟩ : Loop) = rec
  obtain ⟨H1, E1⟩ := HL.push (.loop rec) (.loop ⟨.ready, none, fr, ps.toList, xOf x, xOf y⟩) ⟨w.heap.size + 1, 0, 0, 0, true, none⟩ (by simp) rfl (by
    refine ⟨rfl, rec, ?_, ?_⟩
    · have := World.alloc_heap_new (w.alloc (.deferred (some []))) (.loop rec)
      rwa [World.size_alloc] at this
    · subst hrec
      exact { st := rfl, pend := rfl, pok := (fun e he => by cases he), fr := fun t => (S.fr t).mono (HL.sub_add _), len := fun p hp => by rw [S.size]; exact ok2 p (Array.mem_toList_iff.1 hp), ps := rfl,
              assign := ⟨by rw [S.size]; exact ok3, hx, rfl⟩, body := ⟨by rw [S.size]; exact ok4, hy, rfl⟩ })
  generalize hW1 : (w.alloc (.deferred (some []))).alloc (.loop rec) = W1 at H1 E1
  have hD : W1.heap[w.heap.size]? = some (.deferred (some [])) := by
    rw [← hW1]; exact (Below.heap_alloc _ _ _ (by simp)).trans (World.alloc_heap_new w _)
  obtain ⟨d, args, hres, hinv, hargs⟩ := callRange (l := w.heap.size + 1) hb h2 W1
  have hlead : Target.leads P W1 d.target d.args = some f ∨ True := .inr trivial
  refine ⟨w.heap.size + 1, [mark w.heap.size], W1, d, W1, f, args, W1, ?_, hres, fun _ _ => trivial, hinv, fun hd => by simp [fence, Fence.wide] at hd, ?_⟩
  · rw [← hW1, ← hrec]; exact run_enterLoop_outer _ _ _ _ _
  · have hval : VL (ρ.add h.n ⟨w.heap.size + 1, 0, 0, 0, true, none⟩) (p.toList ++ [.func (.yield h.n) #[] #[]] ++ q.toList) args.toList := by
      rw [hargs, yielded_eq _ _ _ _ _ rfl rfl]
      exact ((hpq.1.mono fun _ _ k => k.mono E1.sub).append (.cons (.yield (Ren.add_new _ _ _)) .nil)).append (hpq.2.mono fun _ _ k => k.mono E1.sub)
    -- the state behind the record
    have SW1 : SW (okcOf ng) ng lo (ρ.add h.n ⟨w.heap.size + 1, 0, 0, 0, true, none⟩) (h.push (.loop ⟨.ready, none, fr, ps.toList, xOf x, xOf y⟩)) { a with defers := [mark w.heap.size] ++ a.defers } W1 := by
      have s1 := (S.toSW.ext HL EL).ext H1 E1
      obtain ⟨Ds, m1, mn, m2⟩ := s1.marks
      obtain ⟨Ds0, m10, mn0, m20⟩ := S.toSW.marks
      have hk := E1.keep w.heap.size (by simp) noD
      refine ⟨s1.H, s1.glob, w.heap.size :: Ds0, by simp [m10], ?_, ?_⟩
      · rw [List.nodup_cons]
        refine ⟨fun hm => ?_, mn0⟩
        have := (Array.getElem?_eq_some_iff.1 (m20 _ hm).2.1).1
        omega
      · intro D hDm
        rcases List.mem_cons.1 hDm with rfl | hDm
        · exact ⟨hlo, hD, hk.2⟩
        · have : D ∈ Ds := by
            have e : Ds.map mark = Ds0.map mark := m1.symm.trans m10
            have : Ds = Ds0 := List.map_injective_mark e
            rw [this]; exact hDm
          exact m2 D this
    refine CallsIn.mono (calls_in (hc _ W1 args H1 SW1.glob hval)) ?_
    rintro e w3 ⟨ρ', h', out, hout, H', E', hq⟩
    cases hout with
    | panic hv =>
      exact ⟨ρ', fr, h', _, _, rfl, hv, SW1.ext H' E', (EL.trans E1).trans E', hq⟩
    | ret hv =>
      simp only [endRange, loopAt] at hq
      split at hq
      case h_2 => exact hq.elim
      rename_i r hr
      have he := E'.sub _ _ (Ren.add_new ρ h.n ⟨w.heap.size + 1, 0, 0, 0, true, none⟩)
      rcases H'.obj _ _ _ hr he with hdead | hor
      · cases hdead
      obtain ⟨_, L, hL, hLR⟩ := hor
      have hnb : L.state ≠ .busy := by rw [hLR.st]; exact hq.1
      obtain ⟨H4, E4⟩ := H'.close (w' := w3.putObj (w.heap.size + 1) (.loop { L with state := .exhausted })) hr rfl he (by simp) rfl rfl rfl (fun k hk => World.putObj_heap_other hk)
      have SW4 := (SW1.ext H' E').ext H4 E4
      have S4 : SR (okcOf ng) ng nt lo ρ' fr (h'.set h.n .dead) { a with defers := [mark w.heap.size] ++ a.defers } (w3.putObj (w.heap.size + 1) (.loop { L with state := .exhausted })) :=
        { SW4 with fr := fun t => (S.fr t).mono (E1.sub.trans E'.sub), size := S.size }
      have EE : Ext ρ h w ρ' (h'.set h.n .dead) (w3.putObj (w.heap.size + 1) (.loop { L with state := .exhausted })) := ((EL.trans E1).trans E').trans E4
      have hend := run_endLoop (P := P) hL hnb
      clear SW4 H4 E4
      generalize w3.putObj (w.heap.size + 1) (.loop { L with state := .exhausted }) = w4 at hend S4 EE
      refine ⟨L.pending, w4, hend, ?_⟩
      have hpd := hLR.pend
      have hpo := hLR.pok
      have hq2 := hq.2
      clear hq hr hLR hL
      cases hp : r.pend with
      | none =>
        rw [hp] at hpd hq2
        rw [hpd]
        exact ⟨ρ', fr, _, S4, EE, hq2⟩
      | some e =>
        rw [hp] at hpd hq2
        have hpo := hpo e hp
        rw [hpd]
        cases e with
        | ret => exact wpIn_ret ⟨ρ', fr, _, S4, EE, hq2⟩
        | exit id => exact wpIn_exit ⟨ρ', fr, _, S4, EE, hq2⟩
        | norm => simp [jumpCode] at hpo
        | panic v => simp [jumpCode] at hpo
theorem LQ.thenQ {K : Act → World → Prop} {B : Fr → AH → XQ → Prop} {Qx : XQ} (hB : ∀ ρ fr h a w, SR (okcOf ng) ng nt lo ρ fr h a w → Ext ρ0 h0 w0 ρ h w → B fr h Qx → K a w) :
    ∀ e a w, LQ ng nt lo ρ0 h0 w0 (thenQ B Qx) e a w → Exit.then K (LQ ng nt lo ρ0 h0 w0 Qx) e a w := by
  intro e a w k
  cases e with
  | normal => obtain ⟨ρ, fr, h, s, x, q⟩ := k; exact hB ρ fr h a w s x q
  | ret => exact k
  | exit id => exact k
  | panic c => exact k
  | goto l => exact k
  | outgrown => exact k
theorem LQ.blockQ {id : Nat} {Qx : XQ} : ∀ e a w, LQ ng nt lo ρ0 h0 w0 (blockQ id Qx) e a w → Exit.inBlock id (LQ ng nt lo ρ0 h0 w0 Qx) e a w := by
  intro e a w k
  cases e with
  | normal => exact k
  | ret => exact k
  | exit j =>
    obtain ⟨ρ, fr, h, s, x, q⟩ := k
    simp only [Exit.inBlock]
    simp only [AI.blockQ] at q
    by_cases e : j = id
    · rw [if_pos e] at q ⊢; exact ⟨ρ, fr, h, s, x, q⟩
    · rw [if_neg e] at q ⊢; exact ⟨ρ, fr, h, s, x, q⟩
  | panic c => exact k
  | goto l => exact k
  | outgrown => exact k
theorem code_sound (hT : ∀ t i, T t = some i → tabOf P t = some i) (hm : P.follows .mixedOrders = true) : ∀ (c : Code), okCode ng nt c = true → rok rd.isNone c = true → ∀ (Qx : XQ) (ρ : Ren) (fr : Fr) (h : AH) (a : Act) (w : World),
    lo ≤ w.heap.size → SR (okcOf ng) ng nt lo ρ fr h a w → xw T (AC (okcOf ng) ng P) (AY (okcOf ng) ng P) (xOf c) fr h Qx → c.wpIn (fence rd) 0 P (LQ ng nt lo ρ h w Qx) a w := by
  intro c
  induction c with
  | skip => exact fun _ _ Qx ρ fr h a w _ S hx => wpIn_skip ⟨ρ, fr, h, S, .refl _ _ _, hx⟩
  | label l => exact fun _ _ Qx ρ fr h a w _ S hx => wpIn_label ⟨ρ, fr, h, S, .refl _ _ _, hx⟩
  | ret => exact fun _ _ Qx ρ fr h a w _ S hx => wpIn_ret ⟨ρ, fr, h, S, .refl _ _ _, hx⟩
  | exit id => exact fun _ _ Qx ρ fr h a w _ S hx => wpIn_exit ⟨ρ, fr, h, S, .refl _ _ _, hx⟩
  | region id ops d =>
    intro ok _ Qx ρ fr h a w _ S hx
    simp only [xOf, xw] at hx
    refine region_sound hT hm ok (fun ρ' fr' h' a' w' S' E' k => ⟨ρ', fr', h', S', E', k⟩) (fun ρ' v v' h' a' w' hv S' E' k => ?_) S hx
    exact ⟨ρ', fr, h', v, v', rfl, hv, S', E', k⟩
  | seq x y ihx ihy =>
    intro ok hr Qx ρ fr h a w hlo S hx
    simp only [okCode, rok, Bool.and_eq_true] at ok hr
    simp only [xOf, xw] at hx
    obtain ⟨fr0, h0, hg, hx⟩ := hx
    obtain ⟨ρ0, H0, E0, V0⟩ := gs_sound hg S.H
    have S0 : SR (okcOf ng) ng nt lo ρ0 fr0 h0 a w := { S.toSW.ext H0 E0 with fr := fun t => V0 t _ (S.fr t), size := S.size }
    refine wpIn_mono ?_ fun e a w (q : LQ ng nt lo ρ0 h0 _ Qx e a w) => q.trans E0
    refine wpIn_seq (wpIn_mono (ihx ok.1 hr.1 _ ρ0 fr0 h0 a w hlo S0 hx) ?_)
    refine LQ.thenQ fun ρ1 fr1 h1 a1 w1 S1 E1 k => ?_
    exact wpIn_mono (ihy ok.2 hr.2 Qx ρ1 fr1 h1 a1 w1 (Nat.le_trans hlo E1.size) S1 k) fun e a w q => q.trans E1
  | cond c x y ihx ihy =>
    intro ok hr Qx ρ fr h a w hlo S hx
    simp only [okCode, rok, Bool.and_eq_true] at ok hr
    simp only [xOf, xw] at hx
    split at hx
    · rename_i t ht
      exact wpIn_cond_split (cond_rel S ok.1.1 ht) (fun e => ihx ok.1.2 hr.1 Qx ρ fr h a w hlo S (hx.1 e)) (fun e => ihy ok.2 hr.2 Qx ρ fr h a w hlo S (hx.2 e))
    · exact hx.elim
  | block id x ih =>
    intro ok hr Qx ρ fr h a w hlo S hx
    simp only [okCode, rok] at ok hr
    simp only [xOf, xw] at hx
    exact wpIn_block (wpIn_mono (ih ok hr _ ρ fr h a w hlo S hx) LQ.blockQ)
  | loop x ih =>
    intro ok hr Qx ρ fr h a w hlo S hx
    simp only [okCode, rok] at ok hr
    simp only [xOf, xw] at hx
    obtain ⟨I, ⟨n, hn⟩, hI⟩ := hx
    have key : ∀ k n, n ≤ k → ∀ ρ1 fr1 h1 a1 w1, SR (okcOf ng) ng nt lo ρ1 fr1 h1 a1 w1 → Ext ρ h w ρ1 h1 w1 → I n fr1 h1 → Code.roundsIn (fence rd) 0 P x (LQ ng nt lo ρ h w Qx) (k + 1) a1 w1 := by
      intro k
      induction k with
      | zero =>
        intro n hn ρ1 fr1 h1 a1 w1 S1 E1 hi
        refine wpIn_mono (ih ok hr _ ρ1 fr1 h1 a1 w1 (Nat.le_trans hlo E1.size) S1 (hI n fr1 h1 hi)) ?_
        intro e a2 w2 q
        cases e with
        | normal => obtain ⟨_, _, _, _, _, m, hm, _⟩ := q; omega
        | ret => exact LQ.trans (nt := nt) E1 (e := .ret) q
        | exit j => exact LQ.trans (nt := nt) E1 (e := .exit j) q
        | panic c => exact LQ.trans (nt := nt) E1 (e := .panic c) q
        | goto l => exact q
        | outgrown => exact q
      | succ k ihk =>
        intro n hn ρ1 fr1 h1 a1 w1 S1 E1 hi
        refine wpIn_mono (ih ok hr _ ρ1 fr1 h1 a1 w1 (Nat.le_trans hlo E1.size) S1 (hI n fr1 h1 hi)) ?_
        intro e a2 w2 q
        cases e with
        | normal => obtain ⟨ρ2, fr2, h2, S2, E2, m, hm, hi2⟩ := q; exact ihk m (by omega) ρ2 fr2 h2 a2 w2 S2 (E1.trans E2) hi2
        | ret => exact LQ.trans (nt := nt) E1 (e := .ret) q
        | exit j => exact LQ.trans (nt := nt) E1 (e := .exit j) q
        | panic c => exact LQ.trans (nt := nt) E1 (e := .panic c) q
        | goto l => exact q
        | outgrown => exact q
    exact wpIn_loop_rounds (n + 1) (key n n (Nat.le_refl _) ρ fr h a w S (.refl _ _ _) hn)
  | rangeFunc g ps x y _ _ =>
    intro ok hr Qx ρ fr h a w hlo S hx
    simp only [rok, Bool.and_eq_true] at hr
    have hrd : rd = none := by cases rd <;> simp_all
    subst hrd
    exact range_sound ok hr.1.2 hr.2 hlo S hx
  | _ => intro ok; simp [okCode] at ok
/-! ### rounds -/
theorem setFrs_rel : ∀ (ps : List Tmp) (vs : List Value) (vs' : List Value) (fr : Fr) (tmps : Array Value), FrR ρ fr tmps → VL ρ vs vs' → (∀ p ∈ ps, p < tmps.size) →
    FrR ρ (setFrs fr ps vs) ((ps.zip vs').foldl (fun t p => t.setIfInBounds p.1 p.2) tmps) ∧ ((ps.zip vs').foldl (fun t p => t.setIfInBounds p.1 p.2) tmps).size = tmps.size
  | [], vs, vs', fr, tmps, F, _, _ => by simp [setFrs, F]
  | p :: ps, [], vs', fr, tmps, F, V, _ => by obtain rfl := V.nil_left; simp [setFrs, F]
  | p :: ps, v :: vs, vs', fr, tmps, F, V, hp => by
    obtain ⟨v', r', rfl, hv, hr⟩ := V.cons_left
    have F' : FrR ρ (fr.put (some p) v) (tmps.setIfInBounds p v') := by
      have := FrR.put (a := { tmps := tmps, defers := [] }) F (.refl _) (d := some p) (fun x hx => by cases hx; exact hp _ (List.mem_cons_self ..)) hv
      exact this
    obtain ⟨i1, i2⟩ := setFrs_rel ps vs r' _ _ F' hr (fun q hq => by simp; exact hp q (List.mem_cons_of_mem _ hq))
    exact ⟨i1, i2.trans (by simp)⟩
def roundQ (l : Nat) (Q : AO → AH → Prop) : XQ
  | .norm, _, h => loopAt h l fun r => Q (.ret (.bool true)) (h.set l (.loop { r with st := .ready, pend := none }))
  | .ret, _, h => loopAt h l fun r => Q (.ret (.bool false)) (h.set l (.loop { r with st := .done, pend := some .ret }))
  | .exit id, _, h => loopAt h l fun r => Q (.ret (.bool false)) (h.set l (.loop { r with st := .done, pend := some (.exit id) }))
  | .panic _, _, _ => False
def assignQ (T : Tab) (C : CT) (Y : YT) (body : XC) (l : Nat) (Q : AO → AH → Prop) : XQ
  | .norm, fr, h => loopAt h l fun r => r.st = .ready ∧ xw T C Y body fr (h.set l (.loop { r with st := .busy })) (roundQ l Q)
  | _, _, _ => False
theorem loop_upd (H : HR okc ρ h w) {l : Nat} {e : Ent} {r r' : ALoop} {L L' : Loop} (hr : h.get l = some (.loop r)) (he : ρ l = some e) (hL : w.heap[e.blk]? = some (.loop L)) (hLR : LoopR okc ρ r' L') :
    HR okc ρ (h.set l (.loop r')) (w.putObj e.blk (.loop L')) ∧ Ext ρ h w ρ (h.set l (.loop r')) (w.putObj e.blk (.loop L')) := by
  have hrw : e.rw = true := by
    rcases H.obj _ _ _ hr he with x | x
    · cases x
    · exact x.1
  exact H.upd hr rfl he rfl (by simp) rfl rfl rfl (fun k hk => World.putObj_heap_other hk) ⟨hrw, L', World.putObj_heap_same (Array.getElem?_eq_some_iff.1 hL).1, hLR⟩
theorem yield_sound (hT : ∀ t i, T t = some i → tabOf P t = some i) (hm : P.follows .mixedOrders = true) {l : Nat} {args : List Value} {r : ALoop} {Q : AO → AH → Prop} (hg : h.get l = some (.loop r)) (hlen : args.length = r.ps.length)
    (hx : xw T (AC (okcOf ng) ng P) (AY (okcOf ng) ng P) r.assign (setFrs r.fr r.ps args) h (assignQ T (AC (okcOf ng) ng P) (AY (okcOf ng) ng P) r.body l Q)) : AY (okcOf ng) ng P l args h Q := by
  intro ρ w e args' H G he V
  rcases H.obj _ _ _ hg he with x | x
  · cases x
  obtain ⟨_, L, hL, hLR⟩ := x
  have hsz : args'.size = L.params.size := by
    have h1 := V.1
    have h2 : L.params.toList.length = r.ps.length := by rw [hLR.ps]
    simp at h1 h2
    omega
  have hy := run_yield (P := P) hL hsz
  have hfold : (L.params.zip args').foldl (fun tmps (t, a) => tmps.setIfInBounds t a) L.tmps = (r.ps.zip args'.toList).foldl (fun t p => t.setIfInBounds p.1 p.2) L.tmps := by
    rw [← hLR.ps, ← Array.toList_zip, Array.foldl_toList]
  rw [hfold] at hy
  obtain ⟨F1, F2⟩ := setFrs_rel r.ps args args'.toList r.fr L.tmps hLR.fr V hLR.len
  refine ⟨L.fn, _, L.assign, L.body, hy, ?_⟩
  generalize (r.ps.zip args'.toList).foldl (fun t p => t.setIfInBounds p.1 p.2) L.tmps = tmps at F1 F2
  obtain ⟨a1, a2, a3⟩ := hLR.assign
  obtain ⟨b1, b2, b3⟩ := hLR.body
  rw [← F2] at a1 b1
  have S : SR (okcOf ng) ng tmps.size w.heap.size ρ (setFrs r.fr r.ps args) h { tmps := tmps, defers := [] } w :=
    ⟨⟨H, G, [], rfl, by simp, fun D hD => by cases hD⟩, F1, rfl⟩
  rw [a3] at hx
  refine roundIn_of_wpIn (F := Fence.wide) trivial ?_
  show Code.wpIn (fence (some e.blk)) 0 P _ _ _ _
  refine wpIn_mono (code_sound (rd := some e.blk) hT hm L.assign a1 a2 _ ρ _ h _ w (Nat.le_refl _) S hx) ?_
  intro ex a1' w1 q
  cases ex with
  | ret => obtain ⟨_, _, _, _, _, q⟩ := q; exact q.elim
  | exit id => obtain ⟨_, _, _, _, _, q⟩ := q; exact q.elim
  | panic c => obtain ⟨_, _, _, _, _, _, _, _, _, q⟩ := q; exact q.elim
  | goto l => exact q
  | outgrown => exact q
  | normal =>
    obtain ⟨ρ1, fr1, h1, S1, E1, q⟩ := q
    simp only [assignQ, loopAt] at q
    split at q
    case h_2 => exact q.elim
    rename_i r1 hr1
    have he1 := E1.sub _ _ he
    rcases S1.H.obj _ _ _ hr1 he1 with x | x
    · cases x
    obtain ⟨_, L1, hL1, hLR1⟩ := x
    refine ⟨_, run_beginRound hL1 (by rw [hLR1.st]; exact q.1), ?_⟩
    obtain ⟨H2, E2⟩ := loop_upd S1.H hr1 he1 hL1 (r' := { r1 with st := .busy }) (L' := { L1 with state := .busy })
      { st := rfl, pend := hLR1.pend, pok := hLR1.pok, fr := hLR1.fr, len := hLR1.len, ps := hLR1.ps, assign := hLR1.assign, body := hLR1.body }
    have S2 : SR (okcOf ng) ng tmps.size w.heap.size ρ1 fr1 (h1.set l (.loop { r1 with st := .busy })) a1' (w1.putObj e.blk (.loop { L1 with state := .busy })) :=
      { S1.toSW.ext H2 E2 with fr := fun t => (S1.fr t).mono E2.sub, size := S1.size }
    rw [b3] at q
    show Code.wpIn (fence (some e.blk)) 0 P _ _ _ _
    refine wpIn_mono (code_sound (rd := some e.blk) hT hm L.body b1 b2 _ ρ1 _ _ _ _ (by simp; exact E1.size) S2 q.2) ?_
    have E12 := E1.trans E2
    -- the round's end
    have fin : ∀ (ρ3 : Ren) (fr3 : Fr) (h3 : AH) (a3 : Act) (w3 : World) (r3 : ALoop) (pd : Option AX) (st : LoopState) (v : Bool), SR (okcOf ng) ng tmps.size w.heap.size ρ3 fr3 h3 a3 w3 →
        Ext ρ1 (h1.set l (.loop { r1 with st := .busy })) (w1.putObj e.blk (.loop { L1 with state := .busy })) ρ3 h3 w3 → h3.get l = some (.loop r3) → (∀ e, pd = some e → (jumpCode e).isSome = true) →
        (if (pd.bind jumpCode).isNone then LoopState.ready else .done) = st → (pd.bind jumpCode).isNone = v → Q (.ret (.bool v)) (h3.set l (.loop { r3 with st := st, pend := pd })) →
        ∃ v' w', (Instr.endRound e.blk (pd.bind jumpCode)).run P w3 = .ok v' w' ∧ Post (okcOf ng) ρ h w Q (.returned v') w' := by
      intro ρ3 fr3 h3 a3 w3 r3 pd st v S3 E3 hr3 hpd hst hv hQ
      have he3 := E3.sub _ _ (E2.sub _ _ he1)
      rcases S3.H.obj _ _ _ hr3 he3 with x | x
      · cases x
      obtain ⟨_, L3, hL3, hLR3⟩ := x
      refine ⟨_, _, run_endRound (pd.bind jumpCode) hL3, ?_⟩
      rw [hst, hv]
      obtain ⟨H4, E4⟩ := loop_upd S3.H hr3 he3 hL3 (r' := { r3 with st := st, pend := pd }) (L' := { L3 with state := st, pending := pd.bind jumpCode })
        { st := rfl, pend := rfl, pok := hpd, fr := hLR3.fr, len := hLR3.len, ps := hLR3.ps, assign := hLR3.assign, body := hLR3.body }
      exact ⟨ρ3, _, .ret (.bool v), .ret (.bool v), H4, (E12.trans E3).trans E4, hQ⟩
    intro ex a3 w3 q3
    cases ex with
    | ret =>
      obtain ⟨ρ3, fr3, h3, S3, E3, q3⟩ := q3
      simp only [roundQ, loopAt] at q3
      split at q3
      case h_2 => exact q3.elim
      rename_i r3 hr3
      exact fin ρ3 fr3 h3 a3 w3 r3 (some .ret) .done false S3 E3 hr3 (fun e he => by cases he; rfl) rfl rfl q3
    | exit id =>
      obtain ⟨ρ3, fr3, h3, S3, E3, q3⟩ := q3
      simp only [roundQ, loopAt] at q3
      split at q3
      case h_2 => exact q3.elim
      rename_i r3 hr3
      exact fin ρ3 fr3 h3 a3 w3 r3 (some (.exit id)) .done false S3 E3 hr3 (fun e he => by cases he; rfl) rfl rfl q3
    | normal =>
      obtain ⟨ρ3, fr3, h3, S3, E3, q3⟩ := q3
      simp only [roundQ, loopAt] at q3
      split at q3
      case h_2 => exact q3.elim
      rename_i r3 hr3
      exact fin ρ3 fr3 h3 a3 w3 r3 none .ready true S3 E3 hr3 (fun e he => by cases he) rfl rfl q3
    | panic c => obtain ⟨_, _, _, _, _, _, _, _, _, q⟩ := q3; exact q.elim
    | goto _ => exact q3.elim
    | outgrown => exact q3.elim
/-! ### functions -/
def aRes (T : Tab) (h : AH) (fr : Fr) : ResultVar → Option Value
  | .tmp t => some (fr t)
  | .cell a t => aLoad T h t (fr a)
def aRess (T : Tab) (h : AH) (fr : Fr) : List ResultVar → Option (List Value)
  | [] => some []
  | x :: r => (aRes T h fr x).bind fun v => (aRess T h fr r).map fun vs => v :: vs
def oneV : List Value → Value
  | [v] => v
  | vs => .tuple vs.toArray
def retQ (T : Tab) (rs : List ResultVar) (Q : AO → AH → Prop) : XQ
  | .norm, fr, h => ∃ vs, aRess T h fr rs = some vs ∧ ∃ v' h', Gs (fun _ => oneV vs) h (fun _ => v') h' ∧ Q (.ret v') h'
  | .ret, fr, h => ∃ vs, aRess T h fr rs = some vs ∧ ∃ v' h', Gs (fun _ => oneV vs) h (fun _ => v') h' ∧ Q (.ret v') h'
  | .panic v, _, h => Q (.panic v) h
  | .exit _, _, _ => False
theorem res_sound (hT : ∀ t i, T t = some i → tabOf P t = some i) (H : HR okc ρ h w) {tmps : Array Value} (F : FrR ρ fr tmps) {x : ResultVar} {v : Value} (hx : aRes T h fr x = some v) :
    ∃ v', ((match x with | .tmp t => pure (tmps.getD t undef) | .cell a t => do loadVar t (← asAddr (tmps.getD a undef))) : Sem Value).run P w = .ok v' w ∧ VR ρ v v' := by
  cases x with
  | tmp t => cases hx; exact ⟨_, by simp, F t⟩
  | cell a t =>
    simp only [aRes] at hx
    obtain ⟨v', h1, h2⟩ := load_sound (P := P) (w := w) hT H hx (F a)
    refine ⟨v', ?_, h2⟩
    have hF := F a
    unfold aLoad at hx
    split at hx
    · rename_i i b hi e
      rw [e] at hF
      obtain ⟨e', he', hs, hp⟩ := ptr_inv hF
      rw [hp] at h1
      dsimp only
      rw [hp]
      simpa [Instr.loadAt, Instr.sureAddr, asAddr] using h1
    · cases hp : ppOf (fr a) with
      | none => rw [hp] at hx; cases hx
      | some v0 =>
        obtain ⟨_, _, _, _, _, _, hp, _⟩ := pp_inv hp hF
        rw [hp] at h1
        dsimp only
        rw [hp]
        simpa [Instr.loadAt, Instr.sureAddr, asAddr] using h1
    · cases hx
theorem ress_sound (hT : ∀ t i, T t = some i → tabOf P t = some i) (H : HR okc ρ h w) {tmps : Array Value} (F : FrR ρ fr tmps) : ∀ {xs : List ResultVar} {vs : List Value}, aRess T h fr xs = some vs →
    ∃ vs', (xs.mapM (fun x => (match x with | .tmp t => pure (tmps.getD t undef) | .cell a t => do loadVar t (← asAddr (tmps.getD a undef)) : Sem Value))).run P w = .ok vs' w ∧ VL ρ vs vs'
  | [], vs, hx => by cases hx; exact ⟨[], by simp, .nil⟩
  | x :: xs, vs, hx => by
    simp only [aRess] at hx
    cases hv : aRes T h fr x with
    | none => rw [hv] at hx; cases hx
    | some v =>
      rw [hv] at hx
      cases hr : aRess T h fr xs with
      | none => rw [hr] at hx; cases hx
      | some r =>
        rw [hr] at hx; cases hx
        obtain ⟨v', h1, h2⟩ := res_sound hT H F hv
        obtain ⟨r', h3, h4⟩ := ress_sound hT H F hr
        refine ⟨v' :: r', ?_, .cons h2 h4⟩
        simp only [List.mapM_cons, Sem.run_bind, h1, Result.andThen_ok, h3, Sem.run_pure]
theorem oneV_rel {vs vs' : List Value} (hv : VL ρ vs vs') : VR ρ (oneV vs) (if h : vs'.toArray.size = 1 then vs'.toArray[0] else .tuple vs'.toArray) := by
  have hl := hv.1
  match vs, vs', hv with
  | [], [], _ => exact VR.tuple_iff.2 .nil
  | [v], [v'], hv => exact hv.head
  | a :: b :: r, a' :: b' :: r', hv =>
    rw [dif_neg (by simp)]
    exact VR.tuple_iff.2 (by simpa using hv)
  | [], _ :: _, hv => simp at hl
  | _ :: _, [], hv => simp at hl
  | [_], _ :: _ :: _, hv => simp at hl
  | _ :: _ :: _, [_], hv => simp at hl
/-- On the way out: the marks are taken. -/
theorem leave_sound {fn : Func} {tmps : Array Value} {R : Ending → World → Prop} {u : FrameMode} (hu : u ≠ .run) {lo : Nat} : ∀ (Ds : List Nat) (w : World), HR okc ρ h w → Ext ρ0 h0 w0 ρ h w → w0.heap.size ≤ lo → Ds.Nodup →
    (∀ D ∈ Ds, lo ≤ D ∧ w.heap[D]? = some (.deferred (some []))) →
    (∀ w', HR okc ρ h w' → Ext ρ0 h0 w0 ρ h w' → LeavesIn (fence none) 0 P fn tmps R [] u w') → LeavesInM (fence none) 0 P fn tmps R (Ds.map mark) u w
  | [], w, H, E, _, _, _, k => k w H E
  | D :: Ds, w, H, E, hlo, hn, hD, k => by
    rw [List.nodup_cons] at hn
    obtain ⟨h1, h2⟩ := hD D (List.mem_cons_self ..)
    refine ⟨hu, .inl ⟨D, _, rfl, run_takeDeferred h2, ?_⟩⟩
    refine leave_sound hu Ds _ (H.shut h2) ?_ hlo hn.2 (fun D' hD' => ?_) k
    · refine ⟨E.sub, E.n, E.old, by simp; exact E.size, E.os, E.tape, E.output, fun k' hk ho => ?_⟩
      obtain ⟨a, b⟩ := E.keep k' hk ho
      exact ⟨(World.putObj_heap_other (by omega)).trans a, b⟩
    · obtain ⟨a, b⟩ := hD D' (List.mem_cons_of_mem _ hD')
      refine ⟨a, (World.putObj_heap_other ?_).trans b⟩
      intro e
      exact hn.1 (e ▸ hD')
def frOf (args : List Value) : Fr := fun t => args.getD t undef
theorem func_sound (hT : ∀ t i, T t = some i → tabOf P t = some i) (hm : P.follows .mixedOrders = true) {f : FuncId} {fn : Func} {c : Code} {args : List Value} {Q : AO → AH → Prop} (hf : P.funcs[f]? = some fn) (hb : fn.body = some c)
    (hname : fn.name ≠ "runtime.NumGoroutine") (ok : okCode ng fn.ntmps c = true) (hr : rok true c = true) (hlen : args.length ≤ fn.ntmps)
    (hx : xw T (AC (okcOf ng) ng P) (AY (okcOf ng) ng P) (xOf c) (frOf args) h (retQ T fn.results.toList Q)) : AC (okcOf ng) ng P f args h Q := by
  refine ⟨⟨fn, hf, by rw [hb]; rfl, hname⟩, ?_⟩
  intro ρ w args' H G V
  suffices hc : CallsIn (fence none) 0 P f args' w (Post (okcOf ng) ρ h w Q) from callsIn_wide.1 hc
  have hla : args'.size = args.length := by have := V.1; simp at this; omega
  refine callsIn_of_wp_marks hf hb trivial ?_
  have S : SR (okcOf ng) ng fn.ntmps w.heap.size ρ (frOf args) h { tmps := args' ++ Array.replicate (fn.ntmps - args'.size) undef, defers := [] } w := by
    refine ⟨⟨H, G, [], rfl, by simp, fun D hD => by cases hD⟩, ?_, by simp; omega⟩
    intro t
    show VR ρ (args.getD t undef) ((args' ++ Array.replicate (fn.ntmps - args'.size) undef).getD t undef)
    rw [List.getD_eq_getElem?_getD, Array.getD_eq_getD_getElem?]
    cases ht : args[t]? with
    | some v =>
      obtain ⟨v', h1, h2⟩ := V.get ht
      rw [Array.getElem?_toList] at h1
      have hlt := (Array.getElem?_eq_some_iff.1 h1).1
      rw [Array.getElem?_append_left hlt, h1]
      exact h2
    | none =>
      have hge : args'.size ≤ t := by
        rw [hla]; exact List.getElem?_eq_none_iff.1 ht
      rw [Array.getElem?_append_right hge, Array.getElem?_replicate]
      have hu : VR ρ undef undef := VR.tuple_iff.2 .nil
      split <;> exact hu
  refine wpIn_mono (code_sound (rd := none) hT hm c ok hr _ ρ _ h _ w (Nat.le_refl _) S hx) ?_
  have fin : ∀ (ρ' : Ren) (fr' : Fr) (h' : AH) (a' : Act) (w' : World), SR (okcOf ng) ng fn.ntmps w.heap.size ρ' fr' h' a' w' → Ext ρ h w ρ' h' w' → (∃ vs, aRess T h' fr' fn.results.toList = some vs ∧ ∃ v2 h2, Gs (fun _ => oneV vs) h' (fun _ => v2) h2 ∧ Q (.ret v2) h2) →
      LeavesInM (fence none) 0 P fn a'.tmps (Post (okcOf ng) ρ h w Q) a'.defers .returning w' := by
    intro ρ' fr' h' a' w' S' E' ⟨vs, hvs, v2, hh2, hg2, hQ⟩
    obtain ⟨Ds, m1, mn, m2⟩ := S'.marks
    rw [m1]
    refine leave_sound (by simp) Ds w' S'.H E' (Nat.le_refl _) mn (fun D hD => ⟨(m2 D hD).1, (m2 D hD).2.1⟩) ?_
    intro w2 H2 E2
    obtain ⟨vs', h1, h2⟩ := ress_sound hT H2 S'.fr hvs
    obtain ⟨ρ3, H3, E3, V3⟩ := gs_sound hg2 H2
    refine ⟨_, ?_, ρ3, hh2, .ret v2, .ret (V3 0 _ (oneV_rel h2)), H3, E2.trans E3, hQ⟩
    unfold results
    rw [Array.mapM_eq_mapM_toList, Sem.run_bind]
    simp only [Sem.run_map, Sem.run_pure]
    exact (congrArg (fun r => Result.andThen (Result.andThen r (fun a w' => Result.ok a.toArray w')) (fun a w' => .ok (if h : a.size = 1 then a[0] else .tuple a) w')) h1).trans rfl
  intro e a' w' q
  cases e with
  | normal => obtain ⟨ρ', fr', h', S', E', q⟩ := q; exact fin ρ' fr' h' a' w' S' E' q
  | ret => obtain ⟨ρ', fr', h', S', E', q⟩ := q; exact fin ρ' fr' h' a' w' S' E' q
  | exit id => obtain ⟨ρ', fr', h', S', E', q⟩ := q; exact q.elim
  | panic chain =>
    obtain ⟨ρ', fr', h', v, v', rfl, hv, S', E', q⟩ := q
    obtain ⟨Ds, m1, mn, m2⟩ := S'.marks
    show LeavesInM (fence none) 0 P fn a'.tmps (Post (okcOf ng) ρ h w Q) a'.defers (.panicking _) w'
    rw [m1]
    refine leave_sound (by simp) Ds w' S'.H E' (Nat.le_refl _) mn (fun D hD => ⟨(m2 D hD).1, (m2 D hD).2.1⟩) ?_
    intro w2 H2 E2
    exact ⟨ρ', h', .panic v, .panic hv, H2, E2, q⟩
  | goto l => exact q.elim
  | outgrown => exact q.elim
end
end Go.AI
