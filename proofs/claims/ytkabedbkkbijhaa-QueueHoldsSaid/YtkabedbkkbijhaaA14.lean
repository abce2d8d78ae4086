/-
  REGIONS THAT DRAW THEIR ORDER: the walk in one order serves for all, whole. (Own work.)
-/
import Derived.Test.YtkabedbkkbijhaaA13
namespace Go.AI
open Go.RowKit

theorem mem_split {α : Type} {x : α} {l : List α} (h : x ∈ l) : ∃ p q, l = p ++ x :: q := List.append_of_mem h
theorem allP_mem {α : Type} {p : α → Prop} : ∀ {l : List α}, allP p l → ∀ x ∈ l, p x
  | [], _, _, hx => by cases hx
  | y :: r, h, x, hx => by
    rcases List.mem_cons.1 hx with rfl | hx
    · exact h.1
    · exact allP_mem h.2 x hx
section
variable {okc : Nat → Code → XC → Prop} {ng nt lo : Nat} {P : Program} {T : Tab} {ops : Array Oper} {bs : List (List Nat)} {effs : List Nat} {rd : Option Nat}
/-- A variable that the interpreter has laid and the model has not. -/
structure Ghost (T : Tab) (ops : Array Oper) (ρ : Ren) (fr : Fr) (h : AH) (q : Nat × Nat) : Prop where
  ex : ∃ o d t ti, ops[q.1]? = some o ∧ freeAlloc o = true ∧ o.dst = some d ∧ o.op = .alloc t ∧ T t = some ti ∧ fr d = .pointer (some ⟨q.2, 0, none⟩) ∧ h.get q.2 = some (.row ti.zero.cells.toList true 0)
  none : ρ q.2 = none
  lt : q.2 < h.n
structure DS (okc : Nat → Code → XC → Prop) (ng nt lo : Nat) (T : Tab) (ops : Array Oper) (bs : List (List Nat)) (effs : List Nat) (R : List (Nat × List Nat)) (Ph : List (Nat × Nat)) (listed : Array Bool) (ρ : Ren) (fr fo : Fr) (h : AH) (a : Act) (w : World) : Prop where
  pw : R.Pairwise (PO ops bs effs)
  inb : ∀ p ∈ R, p.1 < ops.size
  quiet : ∀ p ∈ R, ∀ o, ops[p.1]? = some o → effAt o = true ∨ p.2 = []
  nofree : ∀ p ∈ R, ∀ o, ops[p.1]? = some o → freeAlloc o = false
  size : listed.size = ops.size
  lst : ∀ i, i < ops.size → (listed.getD i true = false ↔ i ∈ R.map (·.1) ∨ i ∈ Ph.map (·.1))
  closed : ∀ i, i < ops.size → listed.getD i true = true → ∀ j ∈ bs.getD i [], listed.getD j false = true
  ph : ∀ q ∈ Ph, Ghost T ops ρ fr h q
  phR : ∀ q ∈ Ph, ∀ p ∈ R, ∃ ci, PO ops bs effs (q.1, ci) p
  phD : Ph.Pairwise fun q r => q.1 ≠ r.1 ∧ q.2 ≠ r.2 ∧ ∀ o o', ops[q.1]? = some o → ops[r.1]? = some o' → unlike o.dst o'.dst = true
  feq : ∀ t, (∀ q ∈ Ph, ∀ o, ops[q.1]? = some o → o.dst ≠ some t) → fo t = fr t
  S : SR okc ng nt lo ρ fo h a w
theorem getD_lt {listed : Array Bool} {i : Nat} (hi : i < listed.size) (d : Bool) : listed.getD i d = listed[i] := by simp [Array.getD_eq_getD_getElem?, hi]
theorem eff_cases {o : Oper} (h1 : effAt o = false) (h2 : freeAlloc o = false) : effOp o.op = false := by
  unfold effAt at h1
  rw [h2] at h1
  simpa using h1
variable (hT : ∀ t i, T t = some i → tabOf P t = some i)
  (hok : ∀ (i : Nat) (o : Oper), ops[i]? = some o → okOper ng nt ops o = true)
  (hedge : ∀ (i : Nat) (o : Oper), ops[i]? = some o → ∀ e ∈ o.after, Region.binds .any e = true → e.on ∈ bs.getD i [] ∧ e.on < ops.size)
  (hdec : ∀ (i : Nat) (o : Oper), ops[i]? = some o → ∀ j ∈ bs.getD i [], ∃ e ∈ o.after, Region.binds .any e = true ∧ (e.on = j ∨ j ∈ bs.getD e.on []))
  (hown : ∀ o ∈ ops, notIn o.dst (looks ops o) = true)
  (hself : ∀ (i : Nat), i < ops.size → i ∉ bs.getD i [])
  (heff : ∀ (i : Nat) (o : Oper), ops[i]? = some o → effAt o = true → i ∈ effs)
include hedge hdec in
/-- What is ready has all that must come ahead of it behind it. -/
theorem ready_before {listed : Array Bool} {x : Nat} {o : Oper} (ho : ops[x]? = some o) (hs : listed.size = ops.size) (hr : ∀ e ∈ o.after, Region.binds .any e = true → listed.getD e.on false = true)
    (hclosed : ∀ i, i < ops.size → listed.getD i true = true → ∀ j ∈ bs.getD i [], listed.getD j false = true) : ∀ j ∈ bs.getD x [], listed.getD j false = true := by
  intro j hj
  obtain ⟨e, he, hb, h1 | h1⟩ := hdec x o ho j hj
  · subst h1; exact hr e he hb
  · have hlt := (hedge x o ho e he hb).2
    refine hclosed e.on hlt ?_ j h1
    have := hr e he hb
    rw [getD_lt (by rw [hs]; exact hlt)] at this ⊢
    exact this
include hT hok hedge hdec hown hself heff
theorem draw_inv {Q : Exit → Act → World → Prop} {Kp : Value → AH → Prop} {K : Fr → AH → Prop} {ρ0 : Ren} {h0 : AH} {w0 : World}
    (hK : ∀ ρ fr h a w, SR okc ng nt lo ρ fr h a w → Ext ρ0 h0 w0 ρ h w → K fr h → Q .normal a w)
    (hP : ∀ ρ v v' h a w, VR ρ v v' → SW okc ng lo ρ h a w → Ext ρ0 h0 w0 ρ h w → Kp v h → Q (.panic [{ v := v', recovered := false }]) a w) :
    ∀ (fuel : Nat) (R : List (Nat × List Nat)) (Ph : List (Nat × Nat)) (listed : Array Bool) (ρ : Ren) (fr fo : Fr) (h : AH) (a : Act) (w : World), R.length + Ph.length ≤ fuel → DS okc ng nt lo T ops bs effs R Ph listed ρ fr fo h a w →
      (∀ q ∈ Ph, h0.n ≤ q.2) → Ext ρ0 h0 w0 ρ h w → xOps T (AC okc ng P) (AY okc ng P) Kp (X ops R) fr h K → wpAnyIn (fence rd) 0 P .any ops Q fuel listed a w := by
  intro fuel
  -- all has been listed
  have done : ∀ (R : List (Nat × List Nat)) (Ph : List (Nat × Nat)) (listed : Array Bool) (ρ : Ren) (fr fo : Fr) (h : AH) (a : Act) (w : World), DS okc ng nt lo T ops bs effs R Ph listed ρ fr fo h a w → R = [] → Ph = [] →
      Ext ρ0 h0 w0 ρ h w → xOps T (AC okc ng P) (AY okc ng P) Kp (X ops R) fr h K → Q .normal a w := by
    intro R Ph listed ρ fr fo h a w D hR hPh E hx
    subst hR; subst hPh
    have hfo : fo = fr := funext fun t => D.feq t (fun q hq => by cases hq)
    subst hfo
    exact hK ρ _ h a w D.S E hx
  have empty : ∀ (R : List (Nat × List Nat)) (Ph : List (Nat × Nat)) (listed : Array Bool) (ρ : Ren) (fr fo : Fr) (h : AH) (a : Act) (w : World), DS okc ng nt lo T ops bs effs R Ph listed ρ fr fo h a w →
      Region.ready .any ops listed = [] → R = [] ∧ Ph = [] := by
    intro R Ph listed ρ fr fo h a w D hr
    have hnot : ∀ j, j ∉ Region.ready .any ops listed := by rw [hr]; simp
    have hPh : Ph = [] := by
      cases Ph with
      | nil => rfl
      | cons q Ph =>
        exfalso
        obtain ⟨o, d, t, ti, ho, hfa, _⟩ := (D.ph q (List.mem_cons_self ..)).ex
        have hlt : q.1 < ops.size := (Array.getElem?_eq_some_iff.1 ho).1
        refine hnot q.1 (mem_ready.2 ⟨(D.lst q.1 hlt).2 (.inr (by simp)), o, ho, fun e he hb => ?_⟩)
        unfold freeAlloc at hfa
        simp only [Bool.and_eq_true, Array.all_eq_true_iff_forall_mem] at hfa
        have := hfa.2 e he
        simp [hb] at this
    subst hPh
    refine ⟨?_, rfl⟩
    cases R with
    | nil => rfl
    | cons p R =>
      exfalso
      have hlt := D.inb p (List.mem_cons_self ..)
      obtain ⟨o, ho⟩ : ∃ o, ops[p.1]? = some o := ⟨_, Array.getElem?_eq_getElem hlt⟩
      refine hnot p.1 (mem_ready.2 ⟨(D.lst p.1 hlt).2 (.inl (by simp)), o, ho, fun e he hb => ?_⟩)
      obtain ⟨he1, he2⟩ := hedge p.1 o ho e he hb
      cases hl : listed.getD e.on true with
      | true => rw [getD_lt (by rw [D.size]; exact he2)] at hl ⊢; exact hl
      | false =>
        exfalso
        rcases (D.lst e.on he2).1 hl with hm | hm
        · obtain ⟨q, hq, hqe⟩ := List.mem_map.1 hm
          obtain ⟨oq, hoq⟩ : ∃ oq, ops[q.1]? = some oq := ⟨_, Array.getElem?_eq_getElem (D.inb q hq)⟩
          rcases List.mem_cons.1 hq with rfl | hq
          · exact hself q.1 hlt (hqe ▸ he1)
          · have hpo := (List.pairwise_cons.1 D.pw).1 q hq
            have := (pair_spec ho hoq hpo.2).1
            exact this (hqe ▸ he1)
        · cases hm
  induction fuel with
  | zero =>
    intro R Ph listed ρ fr fo h a w hle D hge E hx
    have hR : R = [] := List.eq_nil_of_length_eq_zero (by omega)
    have hPh : Ph = [] := List.eq_nil_of_length_eq_zero (by omega)
    refine ⟨?_, done R Ph listed ρ fr fo h a w D hR hPh E hx⟩
    refine List.eq_nil_iff_forall_not_mem.2 fun j hj => ?_
    obtain ⟨hl, o, ho, _⟩ := mem_ready.1 hj
    have hlt : j < ops.size := (Array.getElem?_eq_some_iff.1 ho).1
    rcases (D.lst j hlt).1 hl with hm | hm
    · rw [hR] at hm; cases hm
    · rw [hPh] at hm; cases hm
  | succ fuel ih =>
    intro R Ph listed ρ fr fo h a w hle D hge E hx
    refine ⟨fun hr => ?_, ?_⟩
    · obtain ⟨hR, hPh⟩ := empty R Ph listed ρ fr fo h a w D hr
      exact done R Ph listed ρ fr fo h a w D hR hPh E hx
    intro x hxr
    obtain ⟨hl, o, ho, hpre⟩ := mem_ready.1 hxr
    have hlt : x < ops.size := (Array.getElem?_eq_some_iff.1 ho).1
    have hbefore := ready_before hedge hdec ho D.size hpre D.closed
    have hokx := hok x o ho
    have hdstlt := okOper_dst hokx
    -- the list of what is listed, behind x
    have lsize : (listed.setIfInBounds x true).size = ops.size := by simp [D.size]
    have lget : ∀ i d, i < ops.size → (listed.setIfInBounds x true).getD i d = if i = x then true else listed.getD i d := by
      intro i d hi
      by_cases e : i = x
      · subst e; simp [Array.getD_eq_getD_getElem?, D.size, hlt]
      · rw [if_neg e, getD_set_ne d (Ne.symm e)]
    have lclosed : ∀ i, i < ops.size → (listed.setIfInBounds x true).getD i true = true → ∀ j ∈ bs.getD i [], (listed.setIfInBounds x true).getD j false = true := by
      intro i hi hli j hj
      refine getD_set_true ?_
      by_cases e : i = x
      · subst e; exact hbefore j hj
      · rw [lget i true hi, if_neg e] at hli
        exact D.closed i hi hli j hj
    by_cases hxp : x ∈ Ph.map (·.1)
    · -- a variable that waits for its block
      obtain ⟨q, hq, rfl⟩ := List.mem_map.1 hxp
      obtain ⟨P1, P2, rfl⟩ := mem_split hq
      have G := D.ph q hq
      obtain ⟨o', d, t, ti, ho', hfa, hd, hop, hti, hfr, hget⟩ := G.ex
      rw [ho] at ho'; cases ho'
      have s := tsp hT hti
      have hgu : o.guard = none := by
        unfold freeAlloc at hfa
        simp only [Bool.and_eq_true, Option.isNone_iff_eq_none] at hfa
        exact hfa.1.1.2
      unfold wpOpIn
      rw [ho]
      dsimp only
      have hwant : Region.wanted o (yielded ops a.tmps) = true := by simp [Region.wanted, hgu]
      rw [hwant, if_pos rfl]
      refine ⟨fun _ _ => trivial, ?_⟩
      have hnd : o.semAt (fence rd).round a.eval = execOp a.eval o := Oper.semAt_eq _ _ _ (by intro c hc; rw [hop] at hc; cases hc)
      rw [hnd]
      have hrun : (execOp a.eval o).run P w = .ok (.value (.pointer (some ⟨w.heap.size, 0, none⟩))) (w.alloc (.cells ti.zero.cells t)) := by
        unfold execOp
        rw [hop]
        simp [Instr.alloc, s.zeroValue, newVar, newRow]
      rw [hrun]
      show wpAnyIn (fence rd) 0 P .any ops Q fuel _ (a.put o.dst _) _
      obtain ⟨k1, k2, k3, k4⟩ := D.S.H.real G.none G.lt (.cells ti.zero.cells t) ⟨w.heap.size, 0, ti.zero.cells.size, 0, true, none⟩ hget rfl rfl (by
        refine ⟨rfl, rfl, ti.zero.cells, t, (0, 0), heap_alloc_at w _, rfl, fun _ => rfl, ?_, by simp⟩
        rw [List.drop_zero, List.take_length]
        exact PL.cl_zero s.flat)
      have E' : Ext ρ0 h0 w0 (ρ.add q.2 ⟨w.heap.size, 0, ti.zero.cells.size, 0, true, none⟩) h (w.alloc (.cells ti.zero.cells t)) := by
        refine ⟨E.sub.trans k2, E.n, fun B hB => ?_, by have := E.size; simp; omega, E.os, E.tape, E.output, fun k hk ho' => ?_⟩
        · rw [k3 B (by have := hge q hq; omega)]; exact E.old B hB
        · obtain ⟨u1, u2⟩ := E.keep k hk ho'
          have hkw : k < w.heap.size := Nat.lt_of_lt_of_le hk E.size
          exact ⟨(heap_alloc_lt w _ hkw).trans u1, fun x => u2 (k4 k hkw x)⟩
      have hmem : ∀ r ∈ P1 ++ P2, r ∈ P1 ++ q :: P2 := fun r hr => by
        rcases List.mem_append.1 hr with hr | hr
        · exact List.mem_append_left _ hr
        · exact List.mem_append_right _ (List.mem_cons_of_mem _ hr)
      have hpd := D.phD
      rw [List.pairwise_append, List.pairwise_cons] at hpd
      have hother : ∀ r ∈ P1 ++ P2, r.1 ≠ q.1 ∧ r.2 ≠ q.2 ∧ ∀ o', ops[r.1]? = some o' → unlike o'.dst o.dst = true := by
        intro r hr
        rcases List.mem_append.1 hr with hr | hr
        · have := hpd.2.2 r hr q (List.mem_cons_self ..)
          exact ⟨this.1, this.2.1, fun o' ho' => this.2.2 o' o ho' ho⟩
        · have := hpd.2.1.1 r hr
          exact ⟨Ne.symm this.1, Ne.symm this.2.1, fun o' ho' => unlike_symm (this.2.2 o o' ho ho')⟩
      refine ih R (P1 ++ P2) _ (ρ.add q.2 ⟨w.heap.size, 0, ti.zero.cells.size, 0, true, none⟩) fr (fo.put o.dst (.pointer (some ⟨q.2, 0, none⟩))) h _ _ (by simp at hle ⊢; omega) ?_ (fun r hr => hge r (hmem r hr)) E' hx
      refine ⟨D.pw, D.inb, D.quiet, D.nofree, lsize, ?_, lclosed, ?_, fun r hr => D.phR r (hmem r hr), ?_, ?_, ?_⟩
      · intro i hi
        rw [lget i true hi]
        by_cases e : i = q.1
        · subst e
          rw [if_pos rfl]
          refine ⟨fun h => by simp at h, fun hm => ?_⟩
          exfalso
          rcases hm with hm | hm
          · obtain ⟨p, hp, hpe⟩ := List.mem_map.1 hm
            have hnf := D.nofree p hp o (hpe ▸ ho)
            rw [hfa] at hnf; cases hnf
          · obtain ⟨r, hr, hre⟩ := List.mem_map.1 hm
            exact (hother r hr).1 hre
        · rw [if_neg e, D.lst i hi]
          constructor
          · rintro (hm | hm)
            · exact .inl hm
            · right
              obtain ⟨r, hr, hre⟩ := List.mem_map.1 hm
              refine List.mem_map.2 ⟨r, ?_, hre⟩
              rcases List.mem_append.1 hr with hr | hr
              · exact List.mem_append_left _ hr
              · rcases List.mem_cons.1 hr with rfl | hr
                · exact absurd hre.symm e
                · exact List.mem_append_right _ hr
          · rintro (hm | hm)
            · exact .inl hm
            · right
              obtain ⟨r, hr, hre⟩ := List.mem_map.1 hm
              exact List.mem_map.2 ⟨r, hmem r hr, hre⟩
      · intro r hr
        have G' := D.ph r (hmem r hr)
        exact ⟨G'.ex, by rw [k3 _ (hother r hr).2.1]; exact G'.none, G'.lt⟩
      · rw [List.pairwise_append]
        exact ⟨hpd.1, hpd.2.1.2, fun r hr r' hr' => hpd.2.2 r hr r' (List.mem_cons_of_mem _ hr')⟩
      · intro u hu
        rw [put_app]
        by_cases e : o.dst = some u
        · rw [if_pos e]
          rw [hd] at e; cases e
          exact hfr.symm
        · rw [if_neg e]
          refine D.feq u fun r hr o' ho' => ?_
          rcases List.mem_append.1 hr with hr' | hr'
          · exact hu r (List.mem_append_left _ hr') o' ho'
          · rcases List.mem_cons.1 hr' with rfl | hr'
            · rw [ho] at ho'; cases ho'; exact e
            · exact hu r (List.mem_append_right _ hr') o' ho'
      · have hvr : VR (ρ.add q.2 ⟨w.heap.size, 0, ti.zero.cells.size, 0, true, none⟩) (.pointer (some ⟨q.2, 0, none⟩)) (.pointer (some ⟨w.heap.size, 0, none⟩)) :=
          VR.ptr (e := ⟨w.heap.size, 0, ti.zero.cells.size, 0, true, none⟩) (Ren.add_new _ _ _)
        obtain ⟨Ds, m1, mn, m2⟩ := D.S.marks
        exact { H := k1, glob := D.S.glob.mono k2, marks := ⟨Ds, (Act.put_def a _ _).trans m1, mn, fun D' hD' => by
                  obtain ⟨n1, n2, n3⟩ := m2 D' hD'
                  have hlt' : D' < w.heap.size := (Array.getElem?_eq_some_iff.1 n2).1
                  exact ⟨n1, (heap_alloc_lt w _ hlt').trans n2, fun z => n3 (k4 D' hlt' z)⟩⟩
                fr := D.S.fr.put k2 (fun z hz => by rw [D.S.size]; exact hdstlt z hz) hvr
                size := (Act.put_size a _ _).trans D.S.size }
    · -- an operation of the list
      have hxR : x ∈ R.map (·.1) := by
        rcases (D.lst x hlt).1 hl with hm | hm
        · exact hm
        · exact absurd hm hxp
      obtain ⟨px, hpx, rfl⟩ := List.mem_map.1 hxR
      obtain ⟨p, r, rfl⟩ := mem_split hpx
      have hpw := D.pw
      rw [List.pairwise_append, List.pairwise_cons] at hpw
      have hinp : ∀ q ∈ p, q ∈ p ++ px :: r := fun q hq => List.mem_append_left _ hq
      have hinr : ∀ q ∈ r, q ∈ p ++ px :: r := fun q hq => List.mem_append_right _ (List.mem_cons_of_mem _ hq)
      -- what stands ahead in the list is not listed
      have hnl : ∀ q, q < ops.size → listed.getD q true = false → listed.getD q false = false := by
        intro q hq hlq
        rw [getD_lt (by rw [D.size]; exact hq)] at hlq ⊢; exact hlq
      have hpq : ∀ q ∈ p, ∀ oq, ops[q.1]? = some oq → effOp oq.op = false ∧ q.2 = [] ∧ unlike oq.dst o.dst = true ∧ notIn oq.dst (looks ops o) = true ∧ notIn o.dst (looks ops oq) = true ∧
          (readOp oq.op = false ∨ effAt o = false ∨ q.1 ∈ px.2) ∧ px.1 ∉ bs.getD q.1 [] := by
        intro q hq oq hoq
        have hpo := hpw.2.2 q hq px (List.mem_cons_self ..)
        obtain ⟨c0, c1, c2⟩ := pair_spec hoq ho hpo.2
        have hnb : q.1 ∉ bs.getD px.1 [] := by
          intro hm
          have h1 := hbefore q.1 hm
          have h2 := hnl q.1 (D.inb q (hinp q hq)) ((D.lst q.1 (D.inb q (hinp q hq))).2 (.inl (List.mem_map.2 ⟨q, hinp q hq, rfl⟩)))
          rw [h1] at h2; cases h2
        rcases c2 with ⟨c3, _⟩ | ⟨c3, c4, c5, c6⟩
        · exact absurd c3 hnb
        · have hnf := D.nofree q (hinp q hq) oq hoq
          refine ⟨eff_cases c3 hnf, ?_, c1, c5, c6, ?_, c0⟩
          · rcases D.quiet q (hinp q hq) oq hoq with k | k
            · rw [c3] at k; cases k
            · exact k
          · rcases c4 with k | k | k
            · exact .inl k.1
            · exact .inr (.inl k)
            · exact .inr (.inr k)
      obtain ⟨fp, hqr, hx1⟩ := qr_split p (px :: r) fr h (fun q hq => D.inb q (hinp q hq)) (fun q hq oq hoq => ⟨(hpq q hq oq hoq).1, (hpq q hq oq hoq).2.1⟩) hx
      -- the operation sees the same
      have hseeP : ∀ t ∈ looks ops o, fp t = fr t := by
        intro t ht
        refine qr_agree p fr fp h hqr t fun q hq oq hoq e => ?_
        exact notIn_spec (hpq q hq oq hoq).2.2.2.1 e ht
      have hph : ∀ q ∈ Ph, ∀ oq, ops[q.1]? = some oq → unlike oq.dst o.dst = true ∧ notIn oq.dst (looks ops o) = true ∧ (effAt o = false ∨ q.1 ∈ px.2) := by
        intro q hq oq hoq
        obtain ⟨ci, hpo⟩ := D.phR q hq px hpx
        obtain ⟨c0, c1, c2⟩ := pair_spec (x := (q.1, ci)) hoq ho hpo.2
        have hqlt : q.1 < ops.size := (Array.getElem?_eq_some_iff.1 hoq).1
        have hnb : q.1 ∉ bs.getD px.1 [] := by
          intro hm
          have h1 := hbefore q.1 hm
          have h2 := hnl q.1 hqlt ((D.lst q.1 hqlt).2 (.inr (List.mem_map.2 ⟨q, hq, rfl⟩)))
          rw [h1] at h2; cases h2
        obtain ⟨oq', _, _, _, hoq', hfa, _⟩ := (D.ph q hq).ex
        rw [hoq] at hoq'; cases hoq'
        rcases c2 with ⟨c3, _⟩ | ⟨c3, c4, c5, c6⟩
        · exact absurd c3 hnb
        · refine ⟨c1, c5, ?_⟩
          rcases c4 with k | k | k
          · rw [hfa] at k; cases k.2
          · exact .inl k
          · exact .inr k
      have hseeO : ∀ t ∈ looks ops o, fo t = fr t := by
        intro t ht
        refine D.feq t fun q hq oq hoq e => ?_
        exact notIn_spec (hph q hq oq hoq).2.1 e ht
      simp only [X, List.filterMap_cons, xopOf, ho, Option.map_some, xOps] at hx1
      have hwp : wanted fp (guardOf ops o) = wanted fo (guardOf ops o) := (wanted_congr hseeP).trans (wanted_congr hseeO).symm
      have hap : ∀ h, aOp T fp h o.op = aOp T fo h o.op := fun h => (aOp_congr (ev_congr hseeP)).trans (aOp_congr (ev_congr hseeO)).symm
      rw [hwp, hap] at hx1
      -- behind it
      have next : ∀ (ρ' : Ren) (v v' : Value) (h' : AH) (w' : World), VR ρ' v v' → HR okc ρ' h' w' → Ext ρ h w ρ' h' w' → (h' = h ∨ (effAt o = true ∧
          allP (stays T fp h') (px.2.filterMap fun j => (ops[j]?).map fun p => (p.dst, p.op, guardOf ops p)))) → xOps T (AC okc ng P) (AY okc ng P) Kp (X ops r) (fp.put o.dst v) h' K →
          wpAnyIn (fence rd) 0 P .any ops Q fuel (listed.setIfInBounds px.1 true) (a.put o.dst v') w' := by
        intro ρ' v v' h' w' hv H' E' hheap0 hx2
        have hheap : h' = h ∨ (effAt o = true ∧ ∀ j ∈ px.2, ∀ oj, ops[j]? = some oj → stays T fp h' (oj.dst, oj.op, guardOf ops oj)) := by
          refine hheap0.imp id fun hc => ⟨hc.1, fun j hj oj hoj => ?_⟩
          exact allP_mem hc.2 _ (List.mem_filterMap.2 ⟨j, hj, by rw [hoj]; rfl⟩)
        have hqr' : QR T ops p (fr.put o.dst v) h' (fp.put o.dst v) := by
          refine qr_put p fr fp ?_ ?_ hqr
          · refine hpw.1.imp_of_mem fun {q q'} hq hq' hpo oq oq' hoq hoq' => ?_
            obtain ⟨c0, c1, c2⟩ := pair_spec hoq hoq' hpo.2
            refine ⟨c1, ?_⟩
            rcases hheap with k | k
            · exact .inl k
            · obtain ⟨k, hckat⟩ := k
              right
              rcases c2 with ⟨_, c3 | c3 | c3⟩ | ⟨_, _, _, c6⟩
              · exact c3
              · have := (hpq q' hq' oq' hoq').1
                unfold effAt at c3
                rw [this] at c3; simp at c3
              · exfalso
                rcases c3 px.1 (heff px.1 o ho k) with e | e
                · have := hpw.2.2 q' hq' px (List.mem_cons_self ..)
                  exact this.1 e.symm
                · exact (hpq q' hq' oq' hoq').2.2.2.2.2.2 e
              · exact c6
          · intro q hq oq hoq
            obtain ⟨d1, d2, d3, d4, d5, d6, d7⟩ := hpq q hq oq hoq
            refine ⟨d1, d5, d3, hown oq (by obtain ⟨hi, he⟩ := Array.getElem?_eq_some_iff.1 hoq; rw [← he]; exact Array.getElem_mem hi), ?_⟩
            rcases hheap with k | k
            · exact .inl k
            · obtain ⟨k, hckat⟩ := k
              right
              rcases d6 with e | e | e
              · exact .inl e
              · rw [k] at e; cases e
              · exact .inr (hckat q.1 e oq hoq)
        refine ih (p ++ r) Ph _ ρ' (fr.put o.dst v) (fo.put o.dst v) h' _ w' (by simp at hle ⊢; omega) ?_ hge (E.trans E') (qr_join p r _ _ h' (fun q hq oq hoq => (hpq q hq oq hoq).2.1) hqr' hx2)
        have hmem : ∀ q ∈ p ++ r, q ∈ p ++ px :: r := fun q hq => by
          rcases List.mem_append.1 hq with hq | hq
          · exact hinp q hq
          · exact hinr q hq
        have hne : ∀ q ∈ p ++ r, q.1 ≠ px.1 := fun q hq => by
          rcases List.mem_append.1 hq with hq | hq
          · exact (hpw.2.2 q hq px (List.mem_cons_self ..)).1
          · exact Ne.symm (hpw.2.1.1 q hq).1
        refine ⟨?_, fun q hq => D.inb q (hmem q hq), fun q hq => D.quiet q (hmem q hq), fun q hq => D.nofree q (hmem q hq), lsize, ?_, lclosed, ?_, fun q hq s hs => D.phR q hq s (hmem s hs), D.phD, ?_, ?_⟩
        · rw [List.pairwise_append]
          exact ⟨hpw.1, hpw.2.1.2, fun q hq q' hq' => hpw.2.2 q hq q' (List.mem_cons_of_mem _ hq')⟩
        · intro i hi
          rw [lget i true hi]
          by_cases e : i = px.1
          · rw [if_pos e]
            refine ⟨fun h => by simp at h, fun hm => ?_⟩
            exfalso
            rcases hm with hm | hm
            · obtain ⟨q, hq, hqe⟩ := List.mem_map.1 hm
              exact hne q hq (hqe.trans e)
            · exact hxp (e ▸ hm)
          · rw [if_neg e, D.lst i hi]
            constructor
            · rintro (hm | hm)
              · left
                obtain ⟨q, hq, hqe⟩ := List.mem_map.1 hm
                refine List.mem_map.2 ⟨q, ?_, hqe⟩
                rcases List.mem_append.1 hq with hq | hq
                · exact List.mem_append_left _ hq
                · rcases List.mem_cons.1 hq with rfl | hq
                  · exact absurd hqe.symm e
                  · exact List.mem_append_right _ hq
              · exact .inr hm
            · rintro (hm | hm)
              · left
                obtain ⟨q, hq, hqe⟩ := List.mem_map.1 hm
                exact List.mem_map.2 ⟨q, hmem q hq, hqe⟩
              · exact .inr hm
        · intro q hq
          obtain ⟨oq, d, t, ti, g1, g2, g3, g4, g5, g6, g7⟩ := (D.ph q hq).ex
          obtain ⟨u1, u2, u3⟩ := hph q hq oq g1
          have hfrd : (fr.put o.dst v) d = fr d := by
            rw [put_app, if_neg]
            intro e
            exact unlike_spec (unlike_symm u1) e g3
          refine ⟨⟨oq, d, t, ti, g1, g2, g3, g4, g5, hfrd.trans g6, ?_⟩, ?_, ?_⟩
          · rcases hheap with k | ⟨k, hckat⟩
            · rw [k]; exact g7
            · rcases u3 with e | e
              · rw [k] at e; cases e
              · have hs := hckat q.1 e oq g1
                rw [g3, g4] at hs
                simp only [stays, fresh, g5] at hs
                have hfp : fp d = fr d := by
                  refine qr_agree p fr fp h hqr d fun s hs' os hos e' => ?_
                  obtain ⟨ci, hpo⟩ := D.phR q hq s (hinp s hs')
                  have := (pair_spec (x := (q.1, ci)) g1 hos hpo.2).2.1
                  exact unlike_spec this g3 e'
                rw [hfp, g6] at hs
                exact hs
          · rw [E'.old q.2 (D.ph q hq).lt]; exact (D.ph q hq).none
          · exact Nat.lt_of_lt_of_le (D.ph q hq).lt E'.n
        · intro t ht
          rw [put_app, put_app, D.feq t ht]
        · exact D.S.put H' E' hdstlt hv
      by_cases hw : wanted fo (guardOf ops o) = true
      · rw [if_pos hw] at hx1
        cases hr : aOp T fo h o.op with
        | none => rw [hr] at hx1; exact hx1.elim
        | some res =>
          rw [hr] at hx1
          have hpan : ∀ ρ' v v' h' w', VR ρ' v v' → HR okc ρ' h' w' → Ext ρ h w ρ' h' w' → Kp v h' → Q (.panic [{ v := v', recovered := false }]) a w' :=
            fun ρ' v v' h' w' hv H' E' hk => hP ρ' v v' h' a w' hv (D.S.toSW.ext H' E') (E.trans E') hk
          cases hef : effAt o with
          | true =>
            refine one_sound hT ho D.S hokx hw hr hx1 ?_ hpan
            intro ρ' v v' h' w' hv H' E' hk
            exact next ρ' v v' h' w' hv H' E' (.inr ⟨hef, hk.1⟩) hk.2
          | false =>
            obtain ⟨v, rfl⟩ := quiet_val (eff_cases hef (D.nofree px hpx o ho)) hr
            refine one_sound hT ho D.S hokx hw hr (K := fun v' h' => h' = h ∧ xOps T (AC okc ng P) (AY okc ng P) Kp (X ops r) (fp.put o.dst v') h' K) ⟨rfl, hx1.2⟩ ?_ hpan
            intro ρ' v v' h' w' hv H' E' hk
            exact next ρ' v v' h' w' hv H' E' (.inl hk.1) hk.2
      · rw [if_neg hw] at hx1
        refine skip_sound ho D.S hokx (by simpa using hw) ?_
        exact next ρ undef undef h w (VR.tuple_iff.2 .nil) D.S.H (.refl _ _ _) (.inl rfl) hx1
end
end Go.AI
