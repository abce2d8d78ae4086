/-
  THE INTERPRETER IN USE: more rules. (Own work.)
-/
import Derived.Test.YtkabedbkkbijhaaA18
namespace Go.AI
section
variable {T : Tab} {C : CT} {Y : YT} {fr : Fr} {h : AH}
theorem a_mf {f : FuncId} {p q : Array Operand} {vs ws : List Value} (hp : p.toList.map (ev fr) = vs) (hq : q.toList.map (ev fr) = ws) : aOp T fr h (.makeFunc (.func f) p q) = some (.val (.func (.func f) vs.toArray ws.toArray) h) := by
  subst hp; subst hq
  simp only [aOp]
  congr 3 <;> (apply Array.ext'; simp)
theorem a_len_map {α : Type} {f : α → Value} {xs : List α} {c : Call} {t e : TypeId} {ti : TI} {x : Operand} {k : Nat} (hc : c.callee = .builtin .len) (ht : c.argTypes.toList = [t]) (hx : c.args.toList = [x]) (hti : T t = some ti) (hu : ti.ud = .slice e) (e1 : ev fr x = PS k (xs.map f)) :
    aOp T fr h (.call c) = some (.val (.int .i64 xs.length) h) := by
  have := a_len_ps (T := T) (h := h) hc ht hx hti hu e1
  rwa [List.length_map] at this
theorem a_ix_map {α : Type} {f : α → Value} {xs : List α} {t e : TypeId} {ti g : TI} {x i : Operand} {k : IntKind} {n : Int} {u : α} {sz : Nat} (ht : T t = some ti) (hu : ti.ud = .slice e) (hg : T e = some g) (e1 : ev fr x = PS sz (xs.map f)) (e2 : ev fr i = .int k n) (hk : (sz == g.size) = true) (hn : 0 ≤ n) (hv : xs[n.toNat]? = some u) :
    aOp T fr h (.indexAddr t x i) = some (.val (PP (f u)) h) := a_ix_ps ht hu hg e1 e2 hk hn (by rw [List.getElem?_map, hv]; rfl)
theorem a_ix_mapN {α : Type} {f : α → Value} {xs : List α} {t e : TypeId} {ti g : TI} {x i : Operand} {k : IntKind} {n : Nat} {u : α} {sz : Nat} (ht : T t = some ti) (hu : ti.ud = .slice e) (hg : T e = some g) (e1 : ev fr x = PS sz (xs.map f)) (e2 : ev fr i = .int k n) (hk : (sz == g.size) = true) (hv : xs[n]? = some u) :
    aOp T fr h (.indexAddr t x i) = some (.val (PP (f u)) h) := a_ix_map ht hu hg e1 e2 hk (by omega) (by rw [Int.toNat_natCast]; exact hv)
theorem a_sl {t : TypeId} {x : Operand} {lo hi mx : Option Operand} {u v : Value} {l h' m : Option Value} (e : ev fr x = u) (e1 : lo.map (ev fr) = l) (e2 : hi.map (ev fr) = h') (e3 : mx.map (ev fr) = m) (hv : aSlice T h t u l h' m = some v) : aOp T fr h (.slice t x lo hi mx) = some (.val v h) := by
  simp only [aOp, e, e1, e2, e3, hv, vv, Option.map_some]
end
/-! ### slices of rows, for reading -/
def Rd (h : AH) (k : Nat) (v : Value) (els : List Value) : Prop :=
  sized k els ∧ ((v = .slice none 0 0 ∧ els = []) ∨ ∃ B off c cs, v = .slice (some ⟨B, off, none⟩) els.length c ∧ h.get B = some (.row cs true k) ∧ off + els.length * k ≤ cs.length ∧ (cs.drop off).take (els.length * k) = flat els)
theorem Acc.rd {h : AH} {k : Nat} {v : Value} {els : List Value} (A : Acc h k v els) : Rd h k v els := by
  rcases A with ⟨hs, x | ⟨B, c, rfl, hb, _⟩⟩
  · exact ⟨hs, .inl x⟩
  · have hl := flat_length hs
    exact ⟨hs, .inr ⟨B, 0, c, flat els, rfl, hb, by omega, by rw [List.drop_zero, ← hl, List.take_length]⟩⟩
theorem Rd.stay {h h' : AH} {k : Nat} {v : Value} {els : List Value} (A : Rd h k v els) (hk : ∀ b ∈ rowBlk v, ∀ o, h.get b = some o → h'.get b = some o) : Rd h' k v els := by
  rcases A with ⟨hs, x | ⟨B, off, c, cs, rfl, a2, a3⟩⟩
  · exact ⟨hs, .inl x⟩
  · exact ⟨hs, .inr ⟨B, off, c, cs, rfl, hk B (by simp [rowBlk]) _ a2, a3⟩⟩
theorem Rd.le {h h' : AH} {k : Nat} {v : Value} {els : List Value} (A : Rd h k v els) (x : Le h h') : Rd h' k v els := A.stay fun _ _ _ e => x.get e
theorem Rd.but {h h' : AH} {k : Nat} {bs : List Nat} {v : Value} {els : List Value} (A : Rd h k v els) (x : But bs h h') (hn : ∀ b ∈ rowBlk v, b ∉ bs) : Rd h' k v els := A.stay fun b hb _ e => x.get e (hn b hb)
theorem Rd.src {h : AH} {k : Nat} {v : Value} {els : List Value} {g : TI} (A : Rd h k v els) (hg : g.size = k) : srcCells h g v = some (flat els, els.length) := by
  subst hg
  rcases A with ⟨hs, ⟨rfl, rfl⟩ | ⟨B, off, c, cs, rfl, hget, hb, hf⟩⟩
  · rfl
  · have hc : h.cells ⟨B, off, none⟩ (els.length * g.size) = some (flat els) := cells_of hget rfl (by simpa using hb) hf
    cases hn : els.length with
    | zero => rw [hn] at hc; simp only [srcCells, hc, Option.map_some]
    | succ n => rw [hn] at hc; simp only [srcCells, hc, Option.map_some]
theorem Rd.len {h h' : AH} {k : Nat} {v : Value} {els : List Value} {T : Tab} {t e : TypeId} {ti : TI} (A : Rd h k v els) (ht : T t = some ti) (hu : ti.ud = .slice e) : aLen T h' t v = some (.int .i64 els.length) := by
  rcases A with ⟨_, ⟨rfl, rfl⟩ | ⟨B, off, c, cs, rfl, _⟩⟩
  · simp only [aLen, ht, hu]; rfl
  · simp only [aLen, ht, hu]; rfl
theorem Rd.at {h : AH} {k : Nat} {v : Value} {els : List Value} (A : Rd h k v els) {i : Nat} {u : Value} (hx : els[i]? = some u) :
    ∃ B off c cs, v = .slice (some ⟨B, off, none⟩) els.length c ∧ h.get B = some (.row cs true k) ∧ off + i * k + k ≤ cs.length ∧ (cs.drop (off + i * k)).take k = u.cells.toList := by
  rcases A with ⟨hs, ⟨rfl, rfl⟩ | ⟨B, off, c, cs, rfl, hget, hb, hf⟩⟩
  · simp at hx
  · have hi := (List.getElem?_eq_some_iff.1 hx).1
    have h1 : (i + 1) * k ≤ els.length * k := Nat.mul_le_mul_right k hi
    rw [Nat.add_mul, Nat.one_mul] at h1
    refine ⟨B, off, c, cs, rfl, hget, by omega, ?_⟩
    rw [← flat_at hs hx, ← hf, ← List.drop_drop, List.drop_take, List.take_take]
    congr 1
    omega
theorem Acc.to {T : Tab} {h : AH} {k n : Nat} {v : Value} {els : List Value} {t e : TypeId} {ti g : TI} {q : IntKind} (A : Acc h k v els) (ht : T t = some ti) (hu : ti.ud = .slice e) (hg : T e = some g) (hk : g.size = k) (hn : n ≤ els.length) :
    ∃ u, aSlice T h t v none (some (.int q n)) none = some u ∧ Rd h k u (els.take n) ∧ ∀ b ∈ rowBlk u, b ∈ rowBlk v := by
  subst hk
  have hs' : sized g.size (els.take n) := fun v hv => A.1 v (List.mem_of_mem_take hv)
  have hlt : (els.take n).length = n := by rw [List.length_take]; omega
  rcases A with ⟨hs, ⟨rfl, rfl⟩ | ⟨B, c, rfl, hb, hc⟩⟩
  · simp at hn; subst hn
    refine ⟨.slice none 0 0, ?_, ⟨hs', .inl ⟨rfl, by simp⟩⟩, fun b hb => hb⟩
    simp [aSlice, ht, hu, hg, optBound, boundV]
  · have hfl := flat_length hs
    refine ⟨.slice (some ((⟨B, 0, none⟩ : Addr).add 0)) n (if c = 0 then 0 else c), ?_, ⟨hs', .inr ⟨B, 0, if c = 0 then 0 else c, flat els, by rw [hlt]; rfl, hb, by rw [hlt, hfl, Nat.zero_add]; exact Nat.mul_le_mul_right _ hn, by rw [hlt, List.drop_zero, flat_take hs]⟩⟩, fun b hb => hb⟩
    have htop : ((n : Int) ≤ if c = 0 then (els.length : Int) else ((c - 1 : Nat) : Int)) := by
      split
      · omega
      · rcases hc with e | e <;> omega
    simp only [aSlice, ht, hu, hg, optBound, boundV, sliceable, hb, Bool.not_true, Bool.false_or, beq_self_eq_true, true_and, Int.toNat_zero, Nat.zero_mul, Nat.sub_zero]
    rw [if_pos ⟨Int.le_refl _, by omega, htop⟩]
    simp
theorem Acc.from {T : Tab} {h : AH} {k n : Nat} {v : Value} {els : List Value} {t e : TypeId} {ti g : TI} {q : IntKind} (A : Acc h k v els) (ht : T t = some ti) (hu : ti.ud = .slice e) (hg : T e = some g) (hk : g.size = k) (hn : n ≤ els.length) :
    ∃ u, aSlice T h t v (some (.int q n)) none none = some u ∧ Rd h k u (els.drop n) ∧ ∀ b ∈ rowBlk u, b ∈ rowBlk v := by
  subst hk
  have hs' : sized g.size (els.drop n) := fun v hv => A.1 v (List.mem_of_mem_drop hv)
  have hlt : (els.drop n).length = els.length - n := by rw [List.length_drop]
  rcases A with ⟨hs, ⟨rfl, rfl⟩ | ⟨B, c, rfl, hb, hc⟩⟩
  · simp at hn; subst hn
    refine ⟨.slice none 0 0, ?_, ⟨hs', .inl ⟨rfl, by simp⟩⟩, fun b hb => hb⟩
    simp [aSlice, ht, hu, hg, optBound, boundV]
  · have hfl := flat_length hs
    have hmul : n * g.size ≤ els.length * g.size := Nat.mul_le_mul_right _ hn
    refine ⟨.slice (some ((⟨B, 0, none⟩ : Addr).add (n * g.size))) (els.length - n) (if c = 0 then 0 else c - n), ?_, ⟨hs', .inr ⟨B, n * g.size, if c = 0 then 0 else c - n, flat els, by rw [hlt, add_none, Nat.zero_add], hb, by rw [hlt, hfl, Nat.sub_mul]; omega, ?_⟩⟩, fun b hb => by simpa [rowBlk, add_block] using hb⟩
    · have htop : ((els.length : Int) ≤ if c = 0 then (els.length : Int) else ((c - 1 : Nat) : Int)) := by
        split
        · omega
        · rcases hc with e | e <;> omega
      simp only [aSlice, ht, hu, hg, optBound, boundV, sliceable, hb, Bool.not_true, Bool.false_or, beq_self_eq_true, true_and]
      rw [if_pos ⟨by omega, by omega, htop⟩]
      simp
    · rw [hlt, ← flat_drop hs, ← hlt, ← flat_length hs', List.take_length]
section
variable {T : Tab} {fr : Fr} {h h0 : AH}
theorem a_len_accm {α : Type} {f : α → Value} {xs : List α} {c : Call} {t e : TypeId} {ti : TI} {x : Operand} {k : Nat} {v : Value} (A : Acc h0 k v (xs.map f)) (hc : c.callee = .builtin .len) (ht : c.argTypes.toList = [t]) (hx : c.args.toList = [x]) (hti : T t = some ti) (hu : ti.ud = .slice e) (e1 : ev fr x = v) :
    aOp T fr h (.call c) = some (.val (.int .i64 xs.length) h) := by
  have := A.len (T := T) (h' := h) hti hu
  rw [List.length_map] at this
  exact a_len hc ht hx e1 this
theorem a_len_rdm {α : Type} {f : α → Value} {xs : List α} {c : Call} {t e : TypeId} {ti : TI} {x : Operand} {k : Nat} {v : Value} (A : Rd h0 k v (xs.map f)) (hc : c.callee = .builtin .len) (ht : c.argTypes.toList = [t]) (hx : c.args.toList = [x]) (hti : T t = some ti) (hu : ti.ud = .slice e) (e1 : ev fr x = v) :
    aOp T fr h (.call c) = some (.val (.int .i64 xs.length) h) := by
  have := A.len (T := T) (h' := h) hti hu
  rw [List.length_map] at this
  exact a_len hc ht hx e1 this
theorem a_store1 {t : TypeId} {ti : TI} {x y : Operand} {a : Addr} {u : Value} {cs : List Value} {sz : Nat} (ht : T t = some ti) (hsz : (ti.size == 1) = true) (e : ev fr x = .pointer (some a)) (e' : ev fr y = u) (hu : u.cells = #[u] ∧ notTup u = true) (hg : h.get a.block = some (.row cs true sz)) (hs : a.spot = none) (hl : decide (a.off + 1 ≤ cs.length) = true) :
    aOp T fr h (.store t x y) = some (.val undef (h.set a.block (.row (putAt cs a.off [u]) true sz))) :=
  a_store ht e e' (by rw [hu.1]; simpa using (beq_iff_eq.1 hsz).symm) hu.2 (by rw [hu.1]; exact store_of hg hs hl)
end
theorem Acc.one {h : AH} {k : Nat} {v : Value} {els : List Value} (A : Acc h k v els) : v.cells = #[v] ∧ notTup v = true := by
  obtain ⟨a, c, rfl⟩ := A.slice
  exact ⟨rfl, rfl⟩
section
variable {T : Tab} {fr : Fr} {h : AH}
theorem a_clip_ps {t e : TypeId} {ti g : TI} {x hi mx : Operand} {els : List Value} {k1 k2 : IntKind} {n : Int} {sz : Nat} (ht : T t = some ti) (hu : ti.ud = .slice e) (hg : T e = some g) (e1 : ev fr x = PS sz els) (e2 : ev fr hi = .int k1 n) (e3 : ev fr mx = .int k2 n) (hk : (sz == g.size) = true) (hn : 0 ≤ n ∧ n ≤ els.length) :
    aOp T fr h (.slice t x none (some hi) (some mx)) = some (.val (PSC sz (els.take n.toNat)) h) := by
  have hk : sz = g.size := by simpa using hk
  have : aSlice T h t (PS sz els) none (some (.int k1 n)) (some (.int k2 n)) = some (PSC sz (els.take n.toNat)) := by
    simp only [aSlice, ht, PS, psOf, Int.toNat_natCast, hu, optBound, boundV, hg]
    rw [if_pos ⟨Int.le_refl _, hn.1, hn.2, hk⟩]
    simp [PSC]
  simp only [aOp, e1, e2, e3, this, vv, Option.map_some, Option.map_none]
theorem psc_append {t xt k : TypeId} {g xi : TI} {x : Value} {els new : List Value} (hg : elemOfSlice T t = some g) (hx : T xt = some xi) (hni : ∀ q, xi.ud ≠ .int q) (hk : g.size = k) (hs : srcCells h g x = some (flat new, new.length)) (hne : new ≠ [])
    (hroom : roomOk (els.length + new.length) g.bytes = true) : aAppend T h t xt (PSC k els) x = some (.slice (some ⟨h.n, 0, none⟩) (els.length + new.length) 0, h.push (.row (flat (els ++ new)) true k)) := by
  subst hk
  have hl : new.length ≠ 0 := fun e => hne (List.eq_nil_of_length_eq_zero e)
  have hsrc2 : srcCells h g (PSC g.size els) = some (flat els, els.length) := by
    simp only [srcCells, PSC, psOf, Int.toNat_natCast]
    rw [if_pos trivial]; rfl
  have hcl : clipOf (PSC g.size els) = true := rfl
  unfold aAppend
  rw [hg, hx]
  dsimp only
  rw [hs]
  split
  · rename_i q e; exact (hni _ e).elim
  · rename_i hs' hu
    simp [PSC] at hs'
  · rename_i hs' hu
    simp [PSC] at hs'
  · rename_i new' n' hs' _ _ _
    cases hs'
    rw [hcl, hsrc2]
    dsimp only
    rw [if_neg hl, if_pos hroom, flat_append]
    rfl
  · rename_i h1 _ _
    exact (h1 _ _ rfl).elim
end
/-! ### rows of structs -/
theorem flat_cell {k : Nat} {els : List Value} {i j : Nat} {v c : Value} (hs : sized k els) (hi : els[i]? = some v) (hj : v.cells[j]? = some c) : (flat els)[i * k + j]? = some c := by
  have h1 := flat_at hs hi
  have hjk : j < k := by rw [← (hs v (List.mem_of_getElem? hi)).1]; exact (Array.getElem?_eq_some_iff.1 hj).1
  have h2 : (v.cells.toList)[j]? = some c := by simpa using hj
  rw [← h1, List.getElem?_take, if_pos hjk, List.getElem?_drop] at h2
  exact h2
theorem sized_set {k i : Nat} {els : List Value} {v : Value} (hs : sized k els) (hv : v.cells.size = k ∧ notTup v = true) : sized k (els.set i v) := fun u hu => by
  rcases List.mem_or_eq_of_mem_set hu with x | rfl
  · exact hs u x
  · exact hv
theorem flat_set {k : Nat} : ∀ {els : List Value} {i j : Nat} {v v' c : Value}, sized k els → els[i]? = some v → j < k → v'.cells.toList = v.cells.toList.set j c → putAt (flat els) (i * k + j) [c] = flat (els.set i v')
  | [], i, j, v, v', c, _, h, _, _ => by simp at h
  | u :: r, 0, j, v, v', c, hs, h, hj, hv => by
    simp at h; subst h
    have h2 := (hs u (List.mem_cons_self ..)).1
    simp only [putAt, flat, List.flatMap_cons, Nat.zero_mul, Nat.zero_add, List.set_cons_zero]
    rw [List.set_append_left _ _ (by simp; omega), hv]
  | u :: r, i + 1, j, v, v', c, hs, h, hj, hv => by
    have h2 := (hs u (List.mem_cons_self ..)).1
    have ih := flat_set (i := i) (j := j) (fun x hx => hs x (List.mem_cons_of_mem _ hx)) (by simpa using h) hj hv
    simp only [putAt, flat, List.flatMap_cons, List.set_cons_succ] at ih ⊢
    have e1 : (i + 1) * k + j = u.cells.toList.length + (i * k + j) := by
      rw [Nat.add_mul]; simp; omega
    rw [e1, List.set_append_right _ _ (by omega), Nat.add_sub_cancel_left, ih]
section
variable {T : Tab} {fr : Fr} {h : AH}
theorem a_load_add2 {t : TypeId} {ti : TI} {x : Operand} {B n m sz : Nat} {rw : Bool} {cs : List Value} {v : Value} (ht : T t = some ti) (hg : ti.ud.agg = false) (e : ev fr x = .pointer (some (((⟨B, 0, none⟩ : Addr).add n).add m))) (hb : h.get B = some (.row cs rw sz)) (hv : cs[n + m]? = some v) : aOp T fr h (.load t x) = some (.val v h) := by
  rw [add_none, add_none, Nat.zero_add] at e
  exact a_load ht hg e (cell_of hb rfl hv)
theorem a_store_add2 {t : TypeId} {ti : TI} {x y : Operand} {B n m sz : Nat} {cs : List Value} {u : Value} (ht : T t = some ti) (hsz : (ti.size == 1) = true) (e : ev fr x = .pointer (some (((⟨B, 0, none⟩ : Addr).add n).add m))) (e' : ev fr y = u) (hu : u.cells = #[u] ∧ notTup u = true) (hb : h.get B = some (.row cs true sz)) (hl : n + m < cs.length) :
    aOp T fr h (.store t x y) = some (.val undef (h.set B (.row (putAt cs (n + m) [u]) true sz))) := by
  rw [add_none, add_none, Nat.zero_add] at e
  exact a_store1 ht hsz e e' hu hb rfl (by simp; omega)
end
/-- Rows are given up as they are handed over. -/
theorem AC.give {okc : Nat → Code → XC → Prop} {ng : Nat} {P : Program} {f : FuncId} {args args2 : List Value} {h h2 : AH} {Q : AO → AH → Prop} (hg : Gs (fun t => args.getD t undef) h (fun t => args2.getD t undef) h2) (hl : args.length = args2.length) (hc : AC okc ng P f args2 h2 Q) : AC okc ng P f args h Q := by
  refine ⟨hc.1, fun ρ w args' H G V => ?_⟩
  obtain ⟨ρ1, H1, E1, V1⟩ := gs_sound hg H
  refine (hc.2 ρ1 w args' H1 (G.mono E1.sub) ⟨hl ▸ V.1, fun i x y hx hy => ?_⟩).mono fun _ _ ⟨ρ', h', r, a, b, c, d⟩ => ⟨ρ', h', r, a, b, E1.trans c, d⟩
  have hi : i < args.length := by rw [hl]; exact (List.getElem?_eq_some_iff.1 hx).1
  have := V1 i y (by
    have := V.2 i _ y (List.getElem?_eq_getElem hi) hy
    rw [List.getD_eq_getElem?_getD, List.getElem?_eq_getElem hi]
    exact this)
  rwa [List.getD_eq_getElem?_getD, hx] at this
theorem FZ.args {b k : Nat} {cs : List Value} : ∀ {xs ys : List Value}, L2 (FZ b cs k) xs ys → ∀ t, FZ b cs k (xs.getD t undef) (ys.getD t undef) := fun {xs ys} h t => by
  rw [List.getD_eq_getElem?_getD, List.getD_eq_getElem?_getD]
  cases hx : xs[t]? with
  | none => rw [h.get_none hx]; exact .refl _
  | some x =>
    obtain ⟨y, hy, hz⟩ := h.get hx
    rw [hy]; exact hz
end Go.AI
