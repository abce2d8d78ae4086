/-
  THE INTERPRETER IN USE: what grows, rows of one's own, rows that are given up. (Own work.)
-/
import Derived.Test.YtkabedbkkbijhaaA17
namespace Go.AI

/-! ### heaps that grow -/
def Le (h h' : AH) : Prop := h.n ≤ h'.n ∧ ∀ B o, h.get B = some o → h'.get B = some o
theorem Le.refl (h : AH) : Le h h := ⟨Nat.le_refl _, fun _ _ e => e⟩
theorem Le.trans {a b c : AH} (x : Le a b) (y : Le b c) : Le a c := ⟨Nat.le_trans x.1 y.1, fun B o e => y.2 B o (x.2 B o e)⟩
theorem Le.push {a b : AH} (x : Le a b) (o : AObj) : Le a (b.push o) := ⟨Nat.le_succ_of_le x.1, fun B p e => AH.get_push_old (x.2 B p e) _⟩
theorem Le.set {a b : AH} (x : Le a b) {B : Nat} (hB : a.n ≤ B) (o : AObj) : Le a (b.set B o) := ⟨by rw [AH.n_set]; exact x.1, fun C p e => get_other (x.2 C p e) (by have := AH.get_lt e; omega)⟩
theorem Le.get {a b : AH} (x : Le a b) {B : Nat} {o : AObj} (e : a.get B = some o) : b.get B = some o := x.2 B o e
/-- But for some blocks, all stays. -/
def But (bs : List Nat) (h h' : AH) : Prop := h.n ≤ h'.n ∧ ∀ b o, h.get b = some o → b ∉ bs → h'.get b = some o
theorem But.refl (bs : List Nat) (h : AH) : But bs h h := ⟨Nat.le_refl _, fun _ _ e _ => e⟩
theorem But.trans {bs bs' : List Nat} {a b c : AH} (x : But bs a b) (y : But bs' b c) (hs : ∀ k ∈ bs', k ∈ bs ∨ a.n ≤ k) : But bs a c :=
  ⟨Nat.le_trans x.1 y.1, fun k o e hn => y.2 k o (x.2 k o e hn) fun hm => (hs k hm).elim hn fun h => by have := AH.get_lt e; omega⟩
theorem But.push {bs : List Nat} {a b : AH} (x : But bs a b) (o : AObj) : But bs a (b.push o) := ⟨Nat.le_succ_of_le x.1, fun k p e hn => AH.get_push_old (x.2 k p e hn) _⟩
theorem But.set {bs : List Nat} {a b : AH} (x : But bs a b) {B : Nat} (hB : B ∈ bs ∨ a.n ≤ B) (o : AObj) : But bs a (b.set B o) :=
  ⟨by rw [AH.n_set]; exact x.1, fun k p e hn => get_other (x.2 k p e hn) fun e' => hB.elim (fun hm => hn (e' ▸ hm)) fun h => by have := AH.get_lt e; omega⟩
theorem But.mono {bs bs' : List Nat} {a b : AH} (x : But bs a b) (h : ∀ k ∈ bs, k ∈ bs') : But bs' a b := ⟨x.1, fun k o e hn => x.2 k o e fun hm => hn (h k hm)⟩
theorem Le.but {a b : AH} (x : Le a b) (bs : List Nat) : But bs a b := ⟨x.1, fun k o e _ => x.2 k o e⟩
theorem But.le {a b c : AH} {bs : List Nat} (x : But bs b c) (y : Le a b) (hn : ∀ k ∈ bs, a.n ≤ k) : Le a c := ⟨Nat.le_trans y.1 x.1, fun k o e => x.2 k o (y.2 k o e) fun hm => by have := hn k hm; have := AH.get_lt e; omega⟩
theorem But.get {a b : AH} {bs : List Nat} (x : But bs a b) {B : Nat} {o : AObj} (e : a.get B = some o) (hn : B ∉ bs) : b.get B = some o := x.2 B o e hn

/-! ### giving up -/
theorem Gs.trans {fr fr' fr2 : Fr} {h h' h2 : AH} (hg : Gs fr h fr' h') (hg2 : Gs fr' h' fr2 h2) : Gs fr h fr2 h2 := by
  induction hg with
  | refl => exact hg2
  | conv hb hf hn ho _ ih => exact .conv hb hf hn ho (ih hg2)
  | step hb hf hn ho hd hd2 _ ih => exact .step hb hf hn ho hd hd2 (ih hg2)
theorem Gs.nils {fr fr1 : Fr} {h : AH} (hf : ∀ t, FZ h.n [] 0 (fr t) (fr1 t)) : Gs fr h fr1 h := .conv (Nat.le_refl _) hf rfl (fun _ o' e => ⟨o', e, .refl _⟩) (.refl _ _)
theorem Gs.one {fr fr1 : Fr} {h : AH} {b sz k : Nat} {cs : List Value} (hb : h.get b = some (.row cs true sz)) (hf : ∀ t, FZ b cs k (fr t) (fr1 t)) : Gs fr h fr1 ((h.set b .dead).push .dead) := by
  have hlt := AH.get_lt hb
  refine .step hb hf (by simp) (fun B o' hB hn hg => ?_) ?_ ?_ (.refl _ _)
  · rw [AH.get_push, if_neg (by simp; omega), AH.get_set hb, if_neg hB] at hg
    exact ⟨o', hg, .refl _⟩
  · rw [AH.get_push, if_neg (by simp; omega), AH.get_set hb, if_pos rfl]
  · have := AH.get_push_new (h.set b .dead) .dead
    rwa [AH.n_set] at this
theorem Gs.up {fr fr1 : Fr} {h : AH} {b sz k c : Nat} {cs : List Value} {o o1 : AObj} (hb : h.get b = some (.row cs true sz)) (hf : ∀ t, FZ b cs k (fr t) (fr1 t)) (hc : h.get c = some o) (hne : c ≠ b) (hz : OFZ b cs k o o1) :
    Gs fr h fr1 (((h.set b .dead).set c o1).push .dead) := by
  have hlt := AH.get_lt hb
  have hc1 : (h.set b .dead).get c = some o := get_other hc hne
  refine .step hb hf (by simp) (fun B o' hB hn hg => ?_) ?_ ?_ (.refl _ _)
  · rw [AH.get_push, if_neg (by simp; omega), AH.get_set hc1] at hg
    by_cases x : B = c
    · rw [if_pos x] at hg; cases hg; subst x; exact ⟨o, hc, hz⟩
    · rw [if_neg x, AH.get_set hb, if_neg hB] at hg
      exact ⟨o', hg, .refl _⟩
  · rw [AH.get_push, if_neg (by simp; omega), AH.get_set hc1, if_neg (Ne.symm hne), AH.get_set hb, if_pos rfl]
  · have := AH.get_push_new ((h.set b .dead).set c o1) .dead
    rwa [AH.n_set, AH.n_set] at this
def flat (els : List Value) : List Value := els.flatMap fun v => v.cells.toList
def sized (k : Nat) (els : List Value) : Prop := ∀ v ∈ els, v.cells.size = k ∧ notTup v = true
theorem flat_length {k : Nat} : ∀ {els : List Value}, sized k els → (flat els).length = els.length * k
  | [], _ => by simp [flat]
  | v :: r, h => by
    have h1 := flat_length (els := r) fun u hu => h u (List.mem_cons_of_mem _ hu)
    have h2 := (h v (List.mem_cons_self ..)).1
    simp only [flat, List.flatMap_cons, List.length_append, Array.length_toList, List.length_cons, Nat.add_mul, Nat.one_mul] at h1 ⊢
    omega
theorem flat_append (a b : List Value) : flat (a ++ b) = flat a ++ flat b := by simp [flat]
theorem sized_append {k : Nat} {a b : List Value} (ha : sized k a) (hb : sized k b) : sized k (a ++ b) := fun v hv => (List.mem_append.1 hv).elim (ha v) (hb v)
theorem flat_at {k : Nat} : ∀ {els : List Value} {i : Nat} {v : Value}, sized k els → els[i]? = some v → ((flat els).drop (i * k)).take k = v.cells.toList
  | [], i, v, _, h => by simp at h
  | u :: r, 0, v, hs, h => by
    simp at h; subst h
    have h2 := (hs u (List.mem_cons_self ..)).1
    simp only [flat, List.flatMap_cons, Nat.zero_mul, List.drop_zero]
    rw [List.take_append_of_le_length (by simp; omega), List.take_of_length_le (by simp; omega)]
  | u :: r, i + 1, v, hs, h => by
    have h1 := flat_at (i := i) (v := v) (fun u hu => hs u (List.mem_cons_of_mem _ hu)) (by simpa using h)
    have h2 := (hs u (List.mem_cons_self ..)).1
    simp only [flat, List.flatMap_cons] at h1 ⊢
    have e1 : u.cells.toList.length = k := by simpa using h2
    rw [List.drop_append, e1, Nat.add_mul, Nat.one_mul, List.drop_of_length_le (by omega), List.nil_append, Nat.add_sub_cancel]
    exact h1
theorem flat_take {k : Nat} {els : List Value} (hs : sized k els) (n : Nat) : flat (els.take n) = (flat els).take (n * k) := by
  induction els generalizing n with
  | nil => simp [flat]
  | cons u r ih =>
    have h2 := (hs u (List.mem_cons_self ..)).1
    cases n with
    | zero => simp [flat]
    | succ n =>
      have := ih (fun u hu => hs u (List.mem_cons_of_mem _ hu)) n
      simp only [flat, List.take_succ_cons, List.flatMap_cons] at this ⊢
      rw [this, Nat.add_mul, Nat.one_mul, List.take_append, List.take_of_length_le (l := u.cells.toList) (by simp; omega)]
      congr 2
      simp; omega
theorem flat_drop {k : Nat} {els : List Value} (hs : sized k els) (n : Nat) : flat (els.drop n) = (flat els).drop (n * k) := by
  induction els generalizing n with
  | nil => simp [flat]
  | cons u r ih =>
    have h2 := (hs u (List.mem_cons_self ..)).1
    cases n with
    | zero => simp [flat]
    | succ n =>
      have := ih (fun u hu => hs u (List.mem_cons_of_mem _ hu)) n
      simp only [flat, List.drop_succ_cons, List.flatMap_cons] at this ⊢
      rw [this, Nat.add_mul, Nat.one_mul, List.drop_append, List.drop_of_length_le (l := u.cells.toList) (by simp; omega), List.nil_append]
      congr 1
      simp; omega
theorem FZ.flat {b c k : Nat} {els : List Value} (hs : sized k els) : FZ b (flat els) k (.slice (some ⟨b, 0, none⟩) els.length c) (PS k els) := by
  refine .sl rfl (by rw [flat_length hs]; omega) fun i v hi => ?_
  obtain ⟨h1, h2⟩ := hs v (List.mem_of_getElem? hi)
  exact ⟨h1, h2, by rw [Nat.zero_add]; exact flat_at hs hi⟩
theorem FZ.frame {b k : Nat} {cs : List Value} {fr : Fr} {t : Tmp} {v : Value} (h : FZ b cs k (fr t) v) (i : Tmp) : FZ b cs k (fr i) ((fr.put (some t) v) i) := by
  rw [put_at]
  by_cases e : i = t
  · rw [if_pos e, e]; exact h
  · rw [if_neg e]; exact .refl _
theorem FZ.aggL {b k : Nat} {cs : List Value} : ∀ {xs ys : List Value}, L2 (FZ b cs k) xs ys → FZ b cs k (.agg xs.toArray) (.agg ys.toArray) := fun {xs ys} h =>
  .agg (by simp [h.1]) fun i x y hx hy => h.2 i x y (by simpa using hx) (by simpa using hy)
theorem FZ.tupL {b k : Nat} {cs : List Value} : ∀ {xs ys : List Value}, L2 (FZ b cs k) xs ys → FZ b cs k (.tuple xs.toArray) (.tuple ys.toArray) := fun {xs ys} h =>
  .tuple (by simp [h.1]) fun i x y hx hy => h.2 i x y (by simpa using hx) (by simpa using hy)
theorem OFZ.rowL {b k : Nat} {cs : List Value} {xs ys : List Value} {rw : Bool} {sz : Nat} (h : L2 (FZ b cs k) xs ys) : OFZ b cs k (.row xs rw sz) (.row ys rw sz) := .row h.1 h.2
theorem FZ.rfls {b k : Nat} {cs : List Value} : ∀ {xs : List Value}, L2 (FZ b cs k) xs xs := fun {xs} => ⟨rfl, fun i x y hx hy => by rw [hx] at hy; cases hy; exact .refl _⟩

/-! ### rows of one's own -/
def rowBlk : Value → List Nat
  | .slice (some a) _ _ => [a.block]
  | _ => []
/-- A slice whose row is its own: its elements, k cells each. -/
def Acc (h : AH) (k : Nat) (v : Value) (els : List Value) : Prop :=
  sized k els ∧ ((v = .slice none 0 0 ∧ els = []) ∨ ∃ B c, v = .slice (some ⟨B, 0, none⟩) els.length c ∧ h.get B = some (.row (flat els) true k) ∧ (c = 0 ∨ c = els.length + 1))
theorem Acc.nil {h : AH} {k : Nat} : Acc h k (.slice none 0 0) [] := ⟨fun v hv => (by cases hv), .inl ⟨rfl, rfl⟩⟩
theorem Acc.new {h : AH} {k : Nat} {els : List Value} {B c : Nat} (hs : sized k els) (hb : h.get B = some (.row (flat els) true k)) (hc : c = 0 ∨ c = els.length + 1) : Acc h k (.slice (some ⟨B, 0, none⟩) els.length c) els := ⟨hs, .inr ⟨B, c, rfl, hb, hc⟩⟩
theorem Acc.slice {h : AH} {k : Nat} {v : Value} {els : List Value} (A : Acc h k v els) : ∃ a c, v = .slice a els.length c := by
  rcases A with ⟨_, ⟨rfl, rfl⟩ | ⟨B, c, rfl, _⟩⟩
  · exact ⟨_, _, rfl⟩
  · exact ⟨_, _, rfl⟩
theorem Acc.stay {h h' : AH} {k : Nat} {v : Value} {els : List Value} (A : Acc h k v els) (hk : ∀ b ∈ rowBlk v, ∀ o, h.get b = some o → h'.get b = some o) : Acc h' k v els := by
  rcases A with ⟨hs, x | ⟨B, c, rfl, a2, a3⟩⟩
  · exact ⟨hs, .inl x⟩
  · exact ⟨hs, .inr ⟨B, c, rfl, hk B (by simp [rowBlk]) _ a2, a3⟩⟩
theorem Acc.le {h h' : AH} {k : Nat} {v : Value} {els : List Value} (A : Acc h k v els) (x : Le h h') : Acc h' k v els := A.stay fun _ _ _ e => x.get e
theorem Acc.but {h h' : AH} {k : Nat} {bs : List Nat} {v : Value} {els : List Value} (A : Acc h k v els) (x : But bs h h') (hn : ∀ b ∈ rowBlk v, b ∉ bs) : Acc h' k v els := A.stay fun b hb _ e => x.get e (hn b hb)
theorem Acc.blk_lt {h : AH} {k : Nat} {v : Value} {els : List Value} (A : Acc h k v els) : ∀ b ∈ rowBlk v, b < h.n := by
  rcases A with ⟨_, ⟨rfl, _⟩ | ⟨B, c, rfl, a2, _⟩⟩
  · intro b hb; simp [rowBlk] at hb
  · intro b hb; simp [rowBlk] at hb; subst hb; exact AH.get_lt a2
theorem Acc.src {h : AH} {k : Nat} {v : Value} {els : List Value} {g : TI} (A : Acc h k v els) (hg : g.size = k) : srcCells h g v = some (flat els, els.length) := by
  subst hg
  rcases A with ⟨hs, ⟨rfl, rfl⟩ | ⟨B, c, rfl, hget, _⟩⟩
  · rfl
  · have hl := flat_length hs
    have hc : h.cells ⟨B, 0, none⟩ (els.length * g.size) = some (flat els) := cells_of hget rfl (by simp [hl]) (by rw [List.drop_zero, ← hl, List.take_length])
    cases hn : els.length with
    | zero => rw [hn] at hc; simp only [srcCells, hc, Option.map_some]
    | succ n => rw [hn] at hc; simp only [srcCells, hc, Option.map_some]
theorem ps_src {h : AH} {k : Nat} {els : List Value} {g : TI} (hg : g.size = k) : srcCells h g (PS k els) = some (flat els, els.length) := by
  simp only [srcCells, PS, psOf, Int.toNat_natCast]
  rw [if_pos hg.symm]; rfl
theorem Acc.len {h h' : AH} {k : Nat} {v : Value} {els : List Value} {T : Tab} {t e : TypeId} {ti : TI} (A : Acc h k v els) (ht : T t = some ti) (hu : ti.ud = .slice e) : aLen T h' t v = some (.int .i64 els.length) := by
  obtain ⟨a, c, rfl⟩ := A.slice
  simp only [aLen, ht, hu]; rfl
/-- The address of an element. -/
theorem Acc.at {h : AH} {k : Nat} {v : Value} {els : List Value} (A : Acc h k v els) {i : Nat} {u : Value} (hx : els[i]? = some u) : ∃ B c, v = .slice (some ⟨B, 0, none⟩) els.length c ∧ h.get B = some (.row (flat els) true k) ∧ i * k + k ≤ (flat els).length ∧ ((flat els).drop (i * k)).take k = u.cells.toList := by
  rcases A with ⟨hs, ⟨rfl, rfl⟩ | ⟨B, c, rfl, hget, _⟩⟩
  · simp at hx
  · refine ⟨B, c, rfl, hget, ?_, flat_at hs hx⟩
    have hi := (List.getElem?_eq_some_iff.1 hx).1
    rw [flat_length hs]
    have : (i + 1) * k ≤ els.length * k := Nat.mul_le_mul_right k hi
    rw [Nat.add_mul, Nat.one_mul] at this
    exact this
theorem roomOk_of {n b : Nat} (h : n * b ≤ 70368744177664) (h' : n ≤ 70368744177664) : roomOk n b = true := by
  simp only [roomOk, Bool.and_eq_true, decide_eq_true_eq]; exact ⟨h, h'⟩
theorem acc_append {T : Tab} {h : AH} {t xt k : Nat} {g xi : TI} {v x : Value} {els new : List Value} (A : Acc h k v els) (hg : elemOfSlice T t = some g) (hx : T xt = some xi) (hni : ∀ q, xi.ud ≠ .int q) (hk : g.size = k) (hs : srcCells h g x = some (flat new, new.length)) (hz : sized k new)
    (hroom : roomOk (els.length + new.length) g.bytes = true) :
    ∃ p, aAppend T h t xt v x = some p ∧ Acc p.2 k p.1 (els ++ new) ∧ But (rowBlk v) h p.2 ∧ ∀ b ∈ rowBlk p.1, b ∈ rowBlk v ∨ h.n ≤ b := by
  subst hk
  have hn := flat_length hz
  unfold aAppend
  rw [hg, hx]
  dsimp only
  rw [hs]
  have hsz := sized_append A.1 hz
  split
  · rename_i q e; exact (hni _ e).elim
  · rename_i u new' n' hs' hu
    cases hs'
    have hels : els = [] := by
      rcases A with ⟨_, ⟨_, e⟩ | ⟨B, c, e, _⟩⟩
      · exact e
      · cases e
    subst hels
    by_cases h0 : new.length = 0
    · have : new = [] := List.eq_nil_of_length_eq_zero h0
      subst this
      exact ⟨_, if_pos rfl, by simpa using A, .refl _ _, fun b hb => .inl hb⟩
    · rw [if_neg h0]
      have hr : roomOk new.length g.bytes = true := by simpa using hroom
      rw [if_pos hr]
      refine ⟨_, rfl, ⟨hsz, .inr ⟨h.n, 0, rfl, ?_, .inl rfl⟩⟩, ⟨by simp [newRowV], fun b o e _ => AH.get_push_old e _⟩, fun b hb => ?_⟩
      · exact AH.get_push_new _ _
      · simp [newRowV, rowBlk] at hb; right; omega
  · rename_i u new' n' a len c hs' hu
    cases hs'
    rcases A with ⟨hsA, ⟨e, _⟩ | ⟨B, c', e, hget, hcap⟩⟩
    · cases e
    cases e
    have hlen := flat_length hsA
    by_cases h0 : new.length = 0
    · have : new = [] := List.eq_nil_of_length_eq_zero h0
      subst this
      refine ⟨_, if_pos rfl, ⟨by simpa using hsA, .inr ⟨B, c, by simp, by simpa using hget, by simpa using hcap⟩⟩, .refl _ _, fun b hb => .inl hb⟩
    · rw [if_neg h0]
      rw [if_pos hroom]
      have hcells : h.cells ⟨B, 0, none⟩ (els.length * g.size) = some (flat els) := cells_of hget rfl (by simp [hlen]) (by simp [← hlen])
      rw [hcells]
      dsimp only
      by_cases hc : c ≠ 0 ∧ els.length + new.length > c - 1
      · rw [if_pos hc]
        refine ⟨_, rfl, ⟨hsz, .inr ⟨h.n, 0, by simp [newRowV], ?_, .inl rfl⟩⟩, ⟨by simp [newRowV], fun b o e _ => AH.get_push_old e _⟩, fun b hb => ?_⟩
        · rw [flat_append]; exact AH.get_push_new _ _
        · simp [newRowV, rowBlk] at hb; right; omega
      · rw [if_neg hc, hget]
        dsimp only
        rw [if_pos rfl]
        have hc0 : c = 0 := by
          rcases hcap with e | e
          · exact e
          · by_cases hz : c = 0
            · exact hz
            · exact absurd ⟨hz, by omega⟩ hc
        refine ⟨_, rfl, ⟨hsz, .inr ⟨h.n, c, by simp [newRowV], ?_, .inl hc0⟩⟩, ⟨by simp [newRowV], fun b o e hne => ?_⟩, fun b hb => ?_⟩
        · have := AH.get_push_new (h.set B .dead) (.row (flat els ++ flat new) true g.size)
          rw [flat_append]; simpa [newRowV] using this
        · exact AH.get_push_old (get_other e (by simpa [rowBlk] using hne)) _
        · simp [newRowV, rowBlk] at hb; right; omega
  · rename_i h1 h2 _
    exfalso
    rcases A with ⟨_, ⟨e, _⟩ | ⟨B, c', e, _⟩⟩
    · exact h1 e
    · exact h2 _ _ _ e
  · rename_i h1 _ _
    exact (h1 _ _ rfl).elim
/-- A row of one's own is given up. -/
theorem Acc.give {h : AH} {k : Nat} {v : Value} {els : List Value} (A : Acc h k v els) {fr fr1 : Fr} (hf : ∀ b cs k', FZ b cs k' v (PS k els) → ∀ t, FZ b cs k' (fr t) (fr1 t)) :
    ∃ h', Gs fr h fr1 h' ∧ But (rowBlk v) h h' := by
  rcases A with ⟨hs, ⟨rfl, rfl⟩ | ⟨B, c, rfl, hget, _⟩⟩
  · exact ⟨h, Gs.nils (hf _ _ _ (.nil k)), .refl _ _⟩
  · refine ⟨_, Gs.one hget (hf _ _ _ (FZ.flat hs)), ⟨by simp, fun b o e hn => AH.get_push_old (get_other e (by simpa [rowBlk] using hn)) _⟩⟩
end Go.AI
