/-
  REGIONS, WHOLE. (Own work.)
-/
import Derived.Test.YtkabedbkkbijhaaA14
namespace Go.AI
open Go.RowKit

section
variable {okc : Nat → Code → XC → Prop} {ng nt lo : Nat} {P : Program} {T : Tab} {ops : Array Oper} {ρ : Ren} {fr : Fr} {h : AH} {a : Act} {w : World} {rd : Option Nat}
theorem SR.drawn (S : SR okc ng nt lo ρ fr h a w) (k : Nat) : SR okc ng nt lo ρ fr h a { w with drawn := k } := by
  obtain ⟨⟨H, g, m⟩, f, s⟩ := S
  exact ⟨⟨⟨H.dom, H.lt, fun B o e hB he => (H.obj B o e hB he).imp id fun x => x.mono (.refl _) rfl, H.inj, H.ro, H.frz⟩, g, m⟩, f, s⟩
theorem Ext.drawn (k : Nat) : Ext ρ h w ρ h { w with drawn := k } := ⟨.refl _, Nat.le_refl _, fun _ _ => rfl, Nat.le_refl _, rfl, rfl, rfl, fun _ _ hk => ⟨rfl, hk⟩⟩
theorem ghosts {C : CT} {Y : YT} {Kp : Value → AH → Prop} {K : Fr → AH → Prop} {R : List (Nat × List Nat)} : ∀ (fs : List Nat) (fr : Fr) (h : AH), HR okc ρ h w →
    (∀ i ∈ fs, ∃ o, ops[i]? = some o ∧ freeAlloc o = true) → fs.Pairwise (fun i j => ∀ o o', ops[i]? = some o → ops[j]? = some o' → unlike o.dst o'.dst = true) →
    xOps T C Y Kp (X ops (fs.map (fun i => (i, [])) ++ R)) fr h K →
    ∃ (Ph : List (Nat × Nat)) (fr' : Fr) (h' : AH), Ph.map (·.1) = fs ∧ (∀ q ∈ Ph, Ghost T ops ρ fr' h' q ∧ h.n ≤ q.2) ∧ Ph.Pairwise (fun q r => q.2 ≠ r.2) ∧ (∀ t, (∀ i ∈ fs, ∀ o, ops[i]? = some o → o.dst ≠ some t) → fr' t = fr t) ∧
      HR okc ρ h' w ∧ Ext ρ h w ρ h' w ∧ (∀ B o, h.get B = some o → h'.get B = some o) ∧ xOps T C Y Kp (X ops R) fr' h' K
  | [], fr, h, H, _, _, hx => ⟨[], fr, h, rfl, (fun q hq => by cases hq), .nil, fun _ _ => rfl, H, .refl _ _ _, fun _ _ x => x, hx⟩
  | i :: fs, fr, h, H, hf, hp, hx => by
    obtain ⟨o, ho, hfo⟩ := hf i (List.mem_cons_self ..)
    rw [List.pairwise_cons] at hp
    have hfo' := hfo
    unfold freeAlloc at hfo'
    simp only [Bool.and_eq_true, Option.isNone_iff_eq_none, Option.isSome_iff_exists] at hfo'
    obtain ⟨⟨⟨hop, hg⟩, d, hd⟩, _⟩ := hfo'
    obtain ⟨t, hop⟩ : ∃ t, o.op = .alloc t := by
      revert hop
      cases o.op <;> simp
    simp only [X, List.map_cons, List.cons_append, List.filterMap_cons, xopOf, ho, Option.map_some, List.filterMap_nil, xOps, allP, true_and, guardOf, hg, wanted, if_true, hop, aOp] at hx
    cases hti : T t with
    | none => rw [hti] at hx; exact hx.elim
    | some ti =>
      rw [hti] at hx
      obtain ⟨H1, E1⟩ := H.ghost (.row ti.zero.cells.toList true 0)
      obtain ⟨Ph, fr', h', e1, e2, e3, e4, e5, e6, e7, e8⟩ := ghosts fs _ _ H1 (fun j hj => hf j (List.mem_cons_of_mem _ hj)) hp.2 hx
      refine ⟨(i, h.n) :: Ph, fr', h', by simp [e1], ?_, ?_, ?_, e5, E1.trans e6, fun B p hB => e7 B p ?_, e8⟩
      · intro q hq
        rcases List.mem_cons.1 hq with rfl | hq
        · refine ⟨⟨⟨o, d, t, ti, ho, hfo, hd, hop, hti, ?_, ?_⟩, ?_, ?_⟩, Nat.le_refl _⟩
          · rw [e4 d]
            · rw [put_app, if_pos hd]
            · intro j hj o' ho' e
              exact unlike_spec (hp.1 j hj o o' ho ho') hd e
          · exact e7 _ _ (by rw [AH.get_push, if_pos rfl])
          · cases hr : ρ h.n with
            | none => rfl
            | some e => have := H.dom _ _ hr; exact absurd this (Nat.lt_irrefl _)
          · have := e6.n; simp at this; exact this
        · obtain ⟨x, y⟩ := e2 q hq
          exact ⟨x, by simp at y; omega⟩
      · rw [List.pairwise_cons]
        refine ⟨fun r hr => ?_, e3⟩
        have := (e2 r hr).2
        simp at this
        show h.n ≠ r.2
        omega
      · intro t' ht'
        rw [e4 t' (fun j hj => ht' j (List.mem_cons_of_mem _ hj)), put_app, if_neg (ht' i (List.mem_cons_self ..) o ho)]
      · exact AH.get_push_old hB _
theorem nodup_len : ∀ {n : Nat} {l : List Nat}, l.Nodup → (∀ x ∈ l, x < n) → l.length ≤ n
  | 0, l, _, h => by
    cases l with
    | nil => simp
    | cons x r => exact absurd (h x (List.mem_cons_self ..)) (Nat.not_lt_zero _)
  | n + 1, l, hn, h => by
    have ih := nodup_len (n := n) (hn.erase n) fun x hx => by
      have h1 := h x (List.mem_of_mem_erase hx)
      have h2 : x ≠ n := fun e => by
        subst e
        exact (hn.not_mem_erase hx).elim
      omega
    by_cases hm : n ∈ l
    · rw [List.length_erase_of_mem hm] at ih; omega
    · rw [List.erase_of_not_mem hm] at ih; omega
theorem allPairs_iff {α : Type} {p : α → α → Bool} : ∀ {l : List α}, allPairs p l = true → l.Pairwise fun x y => p x y = true
  | [], _ => .nil
  | x :: r, h => by
    simp only [allPairs, Bool.and_eq_true, List.all_eq_true] at h
    exact List.pairwise_cons.2 ⟨h.1, allPairs_iff h.2⟩
theorem checks_free {ops : Array Oper} : ∀ (fs l done : List Nat), (∀ i ∈ fs, isFree ops i = true) → checks ops (fs ++ l) done = fs.map (fun i => (i, [])) ++ checks ops l (fs.reverse ++ done)
  | [], l, done, _ => rfl
  | i :: fs, l, done, h => by
    simp only [List.cons_append, checks, h i (List.mem_cons_self ..), Bool.not_true, Bool.and_false, Bool.false_eq_true, if_false, List.map_cons]
    rw [checks_free fs l (i :: done) fun j hj => h j (List.mem_cons_of_mem _ hj)]
    simp
theorem free_at {i : Nat} {o : Oper} (ho : ops[i]? = some o) : isFree ops i = freeAlloc o := by simp [isFree, ho]
theorem draw_sound (hT : ∀ t i, T t = some i → tabOf P t = some i) {Q : Exit → Act → World → Prop} (hok : ∀ (i : Nat) (o : Oper), ops[i]? = some o → okOper ng nt ops o = true) (hdr : drawOk ops = true)
    {Kp : Value → AH → Prop} {K : Fr → AH → Prop}
    (hK : ∀ ρ' fr' h' a' w', SR okc ng nt lo ρ' fr' h' a' w' → Ext ρ h w ρ' h' w' → K fr' h' → Q .normal a' w')
    (hP : ∀ ρ' v v' h' a' w', VR ρ' v v' → SW okc ng lo ρ' h' a' w' → Ext ρ h w ρ' h' w' → Kp v h' → Q (.panic [{ v := v', recovered := false }]) a' w')
    (S : SR okc ng nt lo ρ fr h a w) (hx : xOps T (AC okc ng P) (AY okc ng P) Kp (regionOf ops true) fr h K) :
    wpAnyIn (fence rd) 0 P .any ops Q ops.size (Array.replicate ops.size false) a w := by
  unfold drawOk at hdr
  simp only [Bool.and_eq_true] at hdr
  obtain ⟨⟨⟨⟨⟨⟨⟨⟨d1, d2⟩, d3⟩, d4⟩, d5⟩, d6⟩, d7⟩, d8⟩, d9⟩ := hdr
  simp only [regionOf, if_true] at hx
  generalize hbs : (List.range ops.size).map (before ops) = bs at d4 d6 d7 d9
  generalize heffs : ((List.range ops.size).filter fun i => ((ops[i]?).map effAt).getD false) = effs at d4
  have hord : ∃ l, order ops = (List.range ops.size).filter (isFree ops) ++ l := ⟨_, rfl⟩
  obtain ⟨l, hl⟩ := hord
  rw [hl] at hx d1 d2 d3 d4 d8
  generalize hfs : (List.range ops.size).filter (isFree ops) = fs at hx d1 d2 d3 d4 d8
  have hfree : ∀ i ∈ fs, isFree ops i = true ∧ i < ops.size := by
    intro i hi
    rw [← hfs, List.mem_filter, List.mem_range] at hi
    exact ⟨hi.2, hi.1⟩
  rw [checks_free fs l [] fun i hi => (hfree i hi).1] at hx d1 d2 d3 d4 d8
  generalize checks ops l (fs.reverse ++ []) = R at hx d1 d2 d3 d4 d8
  have p3 := allPairs_iff d3
  have p4 := allPairs_iff d4
  have pw : (fs.map (fun i => ((i, []) : Nat × List Nat)) ++ R).Pairwise (PO ops bs effs) := by
    have := p3.and p4
    exact this.imp fun h => ⟨by simpa using h.1, h.2⟩
  rw [List.pairwise_append, List.pairwise_map] at pw
  have hunl : fs.Pairwise (fun i j => ∀ o o', ops[i]? = some o → ops[j]? = some o' → unlike o.dst o'.dst = true) :=
    pw.1.imp fun {i j} hp o o' ho ho' => (pair_spec (x := (i, [])) (y := (j, [])) ho ho' hp.2).2.1
  obtain ⟨Ph, fr', h', e1, e2, e3, e4, e5, e6, e7, e8⟩ := ghosts fs fr h S.H (fun i hi => by
    obtain ⟨x, y⟩ := hfree i hi
    obtain ⟨o, ho⟩ : ∃ o, ops[i]? = some o := ⟨_, Array.getElem?_eq_getElem y⟩
    exact ⟨o, ho, (free_at ho).symm.trans x⟩) hunl hx
  simp only [List.all_eq_true, List.mem_range] at d1 d2 d6 d7 d8 d9
  have hbget : ∀ i, i < ops.size → bs.getD i [] = before ops i := by
    intro i hi
    rw [← hbs]
    simp [List.getD_eq_getElem?_getD, List.getElem?_range, hi]
  have hinb : ∀ p ∈ fs.map (fun i => ((i, []) : Nat × List Nat)) ++ R, p.1 < ops.size := fun p hp => of_decide_eq_true (d2 p hp)
  refine draw_inv (T := T) (bs := bs) (effs := effs) hT hok ?_ ?_ ?_ ?_ ?_ (Q := Q) (Kp := Kp) (K := K) (ρ0 := ρ) (h0 := h) (w0 := w) hK hP ops.size R Ph _ ρ fr' fr h' a w ?_ ?_ (fun q hq => (e2 q hq).2) e6 e8
  · intro i o ho e he hb
    have hi : i < ops.size := (Array.getElem?_eq_some_iff.1 ho).1
    have := d6 i hi
    rw [ho] at this
    simp only [Option.map_some, Option.getD_some, Array.all_eq_true_iff_forall_mem] at this
    have := this e he
    simpa [hb] using this
  · intro i o ho j hj
    have hi : i < ops.size := (Array.getElem?_eq_some_iff.1 ho).1
    have := d7 i hi j hj
    rw [ho] at this
    simp only [Option.map_some, Option.getD_some, Array.any_eq_true'] at this
    obtain ⟨e, he, hb⟩ := this
    simp only [Bool.and_eq_true, Bool.or_eq_true, beq_iff_eq, List.contains_iff_mem] at hb
    exact ⟨e, he, hb.1, hb.2⟩
  · intro o ho
    rw [Array.all_eq_true_iff_forall_mem] at d5
    exact d5 o ho
  · intro i hi hm
    have := d9 i hi
    simp [List.contains_iff_mem.2 hm] at this
    exact this hm
  · intro i o ho he
    have hi : i < ops.size := (Array.getElem?_eq_some_iff.1 ho).1
    rw [← heffs, List.mem_filter, List.mem_range]
    exact ⟨hi, by simp [ho, he]⟩
  · -- the number of operations
    have hnd : ((fs.map (fun i => ((i, []) : Nat × List Nat)) ++ R).map (·.1)).Nodup := by
      rw [List.nodup_iff_pairwise_ne, List.pairwise_map]
      exact p3.imp fun h => by simpa using h
    have hsub : ((fs.map (fun i => ((i, []) : Nat × List Nat)) ++ R).map (·.1)).length ≤ ops.size := by
      refine nodup_len hnd fun i hi => ?_
      obtain ⟨p, hp, rfl⟩ := List.mem_map.1 hi
      exact hinb p hp
    have : Ph.length = fs.length := by rw [← e1]; simp
    simp at hsub
    omega
  · have hPhmem : ∀ q ∈ Ph, q.1 ∈ fs := fun q hq => by rw [← e1]; exact List.mem_map.2 ⟨q, hq, rfl⟩
    refine ⟨pw.2.1, fun p hp => hinb p (List.mem_append_right _ hp), ?_, ?_, by simp, ?_, ?_, fun q hq => (e2 q hq).1, ?_, ?_, ?_, ?_⟩
    · intro p hp o ho
      have := d8 p (List.mem_append_right _ hp)
      rw [ho] at this
      simp only [Option.map_some, Option.getD_some, Bool.or_eq_true, List.isEmpty_iff] at this
      exact this
    · intro p hp o ho
      cases hfo : freeAlloc o with
      | false => rfl
      | true =>
        exfalso
        have hi : p.1 ∈ fs := by
          rw [← hfs, List.mem_filter, List.mem_range]
          exact ⟨hinb p (List.mem_append_right _ hp), by rw [free_at ho]; exact hfo⟩
        exact (pw.2.2 (p.1, []) (List.mem_map.2 ⟨p.1, hi, rfl⟩) p hp).1 rfl
    · intro i hi
      have h1 : (Array.replicate ops.size false).getD i true = false := by simp [Array.getD_eq_getD_getElem?, Array.getElem?_replicate, hi]
      refine ⟨fun _ => ?_, fun _ => h1⟩
      have := List.contains_iff_mem.1 (d1 i hi)
      obtain ⟨p, hp, hpi⟩ := List.mem_map.1 this
      rcases List.mem_append.1 hp with hp | hp
      · right
        obtain ⟨j, hj, rfl⟩ := List.mem_map.1 hp
        rw [e1, ← hpi]; exact hj
      · exact .inl (List.mem_map.2 ⟨p, hp, hpi⟩)
    · intro i hi hli
      simp [Array.getD_eq_getD_getElem?, Array.getElem?_replicate, hi] at hli
    · intro q hq p hp
      exact ⟨[], pw.2.2 (q.1, []) (List.mem_map.2 ⟨q.1, hPhmem q hq, rfl⟩) p hp⟩
    · have hk : Ph.Pairwise fun q r => q.1 ≠ r.1 ∧ ∀ o o', ops[q.1]? = some o → ops[r.1]? = some o' → unlike o.dst o'.dst = true := by
        have h1 : (Ph.map (·.1)).Pairwise fun i j => PO ops bs effs (i, []) (j, []) := by rw [e1]; exact pw.1
        rw [List.pairwise_map] at h1
        exact h1.imp fun {q r} hp => ⟨hp.1, fun o o' ho ho' => (pair_spec (x := (q.1, [])) (y := (r.1, [])) ho ho' hp.2).2.1⟩
      exact (hk.and e3).imp fun h => ⟨h.1.1, h.2, h.1.2⟩
    · intro t ht
      refine (e4 t fun i hi o ho => ?_).symm
      rw [← e1] at hi
      obtain ⟨q, hq, rfl⟩ := List.mem_map.1 hi
      exact ht q hq o ho
    · exact { H := e5, glob := S.glob, marks := (S.toSW.ext e5 e6).marks, fr := S.fr, size := S.size }
theorem region_sound (hT : ∀ t i, T t = some i → tabOf P t = some i) (hm : P.follows .mixedOrders = true) {Q : Exit → Act → World → Prop} {id : Nat} {d : Bool} (hok : okCode ng nt (.region id ops d) = true)
    {Kp : Value → AH → Prop} {K : Fr → AH → Prop}
    (hK : ∀ ρ' fr' h' a' w', SR okc ng nt lo ρ' fr' h' a' w' → Ext ρ h w ρ' h' w' → K fr' h' → Q .normal a' w')
    (hP : ∀ ρ' v v' h' a' w', VR ρ' v v' → SW okc ng lo ρ' h' a' w' → Ext ρ h w ρ' h' w' → Kp v h' → Q (.panic [{ v := v', recovered := false }]) a' w')
    (S : SR okc ng nt lo ρ fr h a w) (hx : xOps T (AC okc ng P) (AY okc ng P) Kp (regionOf ops d) fr h K) :
    (Code.region id ops d).wpIn (fence rd) 0 P Q a w := by
  simp only [okCode, Bool.and_eq_true, Bool.or_eq_true, Bool.not_eq_true'] at hok
  have hok1 : ∀ (i : Nat) (o : Oper), ops[i]? = some o → okOper ng nt ops o = true := fun i o ho => by
    rw [Array.all_eq_true_iff_forall_mem] at hok
    exact hok.1 o (Array.mem_of_getElem? ho)
  cases d with
  | false =>
    refine wpIn_region ?_
    refine text_sound hT (rd := rd) hok1 hK hP (List.range ops.size) ρ fr h a w (fun i hi => List.mem_range.1 hi) S (.refl _ _ _) ?_
    simpa [regionOf] using hx
  | true =>
    refine wpIn_region_any hm ?_
    exact draw_sound hT hok1 (by simpa using hok.2) (fun ρ' fr' h' a' w' S' E' k => hK ρ' fr' h' a' w' S' ((Ext.drawn _).trans E') k)
      (fun ρ' v v' h' a' w' hv S' E' k => hP ρ' v v' h' a' w' hv S' ((Ext.drawn _).trans E') k) (S.drawn _) hx
end
end Go.AI
