/-
  EACH OPERATION OF THE INTERPRETER AGAINST THE MODEL'S, continued. (Own work.)
-/
import Derived.Test.YtkabedbkkbijhaaA4
import Derived.Laws.StructEq
import Derived.Maps.Own
namespace Go.AI
open Go.RowKit

def Got (okc : Nat → Code → XC → Prop) (P : Program) (ρ : Ren) (h : AH) (w : World) (s : Sem Value) (v : Value) (h' : AH) : Prop :=
  ∃ ρ' v' w', s.run P w = .ok v' w' ∧ VR ρ' v v' ∧ HR okc ρ' h' w' ∧ Ext ρ h w ρ' h' w'
def GotU (okc : Nat → Code → XC → Prop) (P : Program) (ρ : Ren) (h : AH) (w : World) (s : Sem Unit) (h' : AH) : Prop :=
  ∃ ρ' w', s.run P w = .ok () w' ∧ HR okc ρ' h' w' ∧ Ext ρ h w ρ' h' w'
section
variable {okc : Nat → Code → XC → Prop} {P : Program} {T : Tab} {ρ : Ren} {h : AH} {w : World}
theorem Got.pure (H : HR okc ρ h w) {s : Sem Value} {v v' : Value} (hr : s.run P w = .ok v' w) (hv : VR ρ v v') : Got okc P ρ h w s v h := ⟨ρ, v', w, hr, hv, H, .refl _ _ _⟩
theorem udOf_bool {d : TypeDesc} (h : UD.bool = udOf d) : d = .bool := by cases d <;> simp_all [udOf]
theorem udOf_int {d : TypeDesc} {k : IntKind} (h : UD.int k = udOf d) : d = .int k := by cases d <;> simp_all [udOf]
theorem udOf_string {d : TypeDesc} (h : UD.string = udOf d) : d = .string := by cases d <;> simp_all [udOf]
theorem udOf_slice {d : TypeDesc} {e : TypeId} (h : UD.slice e = udOf d) : d = .slice e := by cases d <;> simp_all [udOf]
theorem udOf_array {d : TypeDesc} {n : Nat} {e : TypeId} (h : UD.array n e = udOf d) : d = .array n e := by cases d <;> simp_all [udOf]
theorem udOf_map {d : TypeDesc} {k e : TypeId} (h : UD.map k e = udOf d) : d = .map k e := by cases d <;> simp_all [udOf]
theorem udOf_pointer {d : TypeDesc} {e : TypeId} (h : UD.pointer e = udOf d) : d = .pointer e := by cases d <;> simp_all [udOf]
theorem udOf_struct {d : TypeDesc} {fs : List (Nat × TypeId × Bool)} (h : UD.struct fs = udOf d) : ∃ gs : Array Field, d = .struct gs ∧ fs = gs.toList.map fun f => (f.offset, f.type, f.name == "_") := by
  cases d <;> simp_all [udOf]
theorem udOf_func {d : TypeDesc} (h : UD.func = udOf d) : ∃ a b c, d = .func a b c := by cases d <;> simp_all [udOf]
theorem udOf_iface {d : TypeDesc} (h : UD.iface = udOf d) : ∃ a, d = .interface a := by cases d <;> simp_all [udOf]
theorem und {t : TypeId} {i : TI} (s : TabSpec P t i) : ∃ d, P.underlying t = some d ∧ i.ud = udOf d := by
  obtain ⟨I, d, _, hd, hu, _⟩ := s.ex; exact ⟨d, hd, hu⟩

/-! ### values of one cell -/
theorem int_inv {k : IntKind} {n : Int} {v' : Value} (h : VR ρ (.int k n) v') : v' = .int k n := by cases h; rfl
theorem bool_inv {b : Bool} {v' : Value} (h : VR ρ (.bool b) v') : v' = .bool b := by cases h; rfl
theorem string_inv {s : ByteArray} {v' : Value} (h : VR ρ (.string s) v') : v' = .string s := by cases h; rfl
theorem pureOf_run {α : Type} {s : Sem α} {a : α} (h : pureOf s = some a) (P : Program) (w : World) : s.run P w = .ok a w := by
  cases s <;> simp [pureOf] at h
  subst h; rfl
theorem pureV_run {s : Sem Value} {v : Value} (h : pureV s = some v) (P : Program) (w : World) : s.run P w = .ok v w ∧ simpleV v = true := by
  unfold pureV at h
  split at h
  · split at h
    · cases h; exact ⟨rfl, by assumption⟩
    · cases h
  · cases h
theorem aEq1_sound {d : Nat} {t : TypeId} {x y x' y' : Value} {b : Bool} {ds : TypeDesc} (hd : P.underlying t = some ds) (hl : aEq1 (udOf ds) x y = some b) (hx : VR ρ x x') (hy : VR ρ y y') (w : World) :
    (Op.equalIn (d + 1) t x' y').run P w = .ok b w := by
  generalize hu : udOf ds = u at hl
  unfold aEq1 at hl
  split at hl
  · obtain rfl := udOf_bool hu.symm
    cases hl; rw [bool_inv hx, bool_inv hy]; simp [Op.equalIn, run_underlying hd]
  · obtain rfl := udOf_int hu.symm
    split at hl
    · rename_i hk; cases hl; subst hk; rw [int_inv hx, int_inv hy]; simp [Op.equalIn, run_underlying hd]
    · cases hl
  · obtain rfl := udOf_string hu.symm
    cases hl; rw [string_inv hx, string_inv hy]; simp [Op.equalIn, run_underlying hd]
  · obtain rfl := udOf_pointer hu.symm
    cases hl; cases hx; cases hy <;> simp [Op.equalIn, run_underlying hd]
  · obtain rfl := udOf_pointer hu.symm
    cases hl; cases hx; cases hy; simp [Op.equalIn, run_underlying hd]
  · obtain rfl := udOf_slice hu.symm
    cases hl; cases hx; cases hy <;> simp [Op.equalIn, run_underlying hd]
  · obtain rfl := udOf_slice hu.symm
    cases hl; cases hx; cases hy; simp [Op.equalIn, run_underlying hd]
  · obtain rfl := udOf_map hu.symm
    cases hl; cases hx; cases hy <;> simp [Op.equalIn, run_underlying hd]
  · obtain rfl := udOf_map hu.symm
    cases hl; cases hx; cases hy; simp [Op.equalIn, run_underlying hd]
  · obtain ⟨_, _, _, rfl⟩ := udOf_func hu.symm
    cases hl; cases hx; cases hy; simp [Op.equalIn, run_underlying hd]
  · obtain ⟨_, _, _, rfl⟩ := udOf_func hu.symm
    cases hl; cases hx; cases hy <;> simp [Op.equalIn, run_underlying hd]
  · obtain ⟨_, _, _, rfl⟩ := udOf_func hu.symm
    cases hl; cases hy; cases hx <;> simp [Op.equalIn, run_underlying hd]
  · obtain rfl := udOf_slice hu.symm
    split at hl
    · rename_i p q _ _ hc
      cases hl; cases hy
      obtain ⟨⟨k, els⟩, hps⟩ := Option.isSome_iff_exists.1 hc.1
      obtain ⟨ca, cc, rfl, _, _, h2⟩ := ps_inv hps hx
      obtain rfl := ps_arr hps
      rcases h2 with ⟨h2, _⟩ | ⟨_, _, _, _, _, _, rfl, _⟩
      · have h3 : q = #[] := by simpa using h2
        subst h3; simp at hc
      · simp [Op.equalIn, run_underlying hd]
    · cases hl
  · obtain rfl := udOf_slice hu.symm
    split at hl
    · rename_i p q hc
      cases hl; cases hx
      obtain ⟨⟨k, els⟩, hps⟩ := Option.isSome_iff_exists.1 hc.1
      obtain ⟨ca, cc, rfl, _, _, h2⟩ := ps_inv hps hy
      obtain rfl := ps_arr hps
      rcases h2 with ⟨h2, _⟩ | ⟨_, _, _, _, _, _, rfl, _⟩
      · have h3 : q = #[] := by simpa using h2
        subst h3; simp at hc
      · simp [Op.equalIn, run_underlying hd]
    · cases hl
  · obtain rfl := udOf_pointer hu.symm
    split at hl
    · rename_i p q hc
      cases hl; cases hy
      obtain ⟨_, _, _, _, _, _, rfl, _⟩ := pp_inv (v := p[1]) (by simp [ppOf, hc]) hx
      simp [Op.equalIn, run_underlying hd]
    · cases hl
  · obtain rfl := udOf_pointer hu.symm
    split at hl
    · rename_i p q hc
      cases hl; cases hx
      obtain ⟨_, _, _, _, _, _, rfl, _⟩ := pp_inv (v := p[1]) (by simp [ppOf, hc]) hy
      simp [Op.equalIn, run_underlying hd]
    · cases hl
  · cases hl
theorem run_part (t : TypeId) (cs : Array Value) (off : Nat) (v : Value) {i : TI} (s : TabSpec P t i) (hp : i.ud.agg = false) (hv : cs[off]? = some v) (w : World) : (part t cs off).run P w = .ok v w := by
  simp [part, s.isAgg, hp, hv]
theorem prim_agg {u : UD} (h : primUD u = true) : u.agg = false := by cases u <;> simp_all [primUD, UD.agg]
variable (hT : ∀ t i, T t = some i → tabOf P t = some i)
include hT
theorem aEqFields_sound {d : Nat} {xs ys xs' ys' : Array Value} (hx : CL ρ xs.toList xs'.toList) (hy : CL ρ ys.toList ys'.toList) (w : World) : ∀ (fs : List Field) (b : Bool),
    aEqFields T xs ys (fs.map fun f => (f.offset, f.type, f.name == "_")) = some b → (Op.eqFields (d + 1) xs' ys' fs).run P w = .ok b w
  | [], b, h => by simp [aEqFields] at h; subst h; simp [Op.eqFields]
  | f :: fs, b, h => by
    simp only [List.map_cons, aEqFields] at h
    split at h
    · cases h
    · rename_i hb
      split at h
      · rename_i i x y hi hxx hyy
        split at h
        · rename_i hp
          have s := tsp hT hi
          obtain ⟨ds, hds, hud⟩ := und s
          obtain ⟨x', hx', hvx⟩ := hx.get (by simpa using hxx : xs.toList[f.offset]? = some x)
          obtain ⟨y', hy', hvy⟩ := hy.get (by simpa using hyy : ys.toList[f.offset]? = some y)
          have hb' : f.name ≠ "_" := by simpa using hb
          have p1 := run_part (P := P) f.type xs' f.offset x' s (prim_agg hp) (by simpa using hx') w
          have p2 := run_part (P := P) f.type ys' f.offset y' s (prim_agg hp) (by simpa using hy') w
          rw [hud] at h
          split at h
          · rename_i he
            have e1 := aEq1_sound (d := d) hds he hvx.1 hvy.1 w
            have ih := aEqFields_sound (d := d) hx hy w fs b h
            simp [Op.eqFields, hb', p1, p2, e1, ih]
          · rename_i he
            cases h
            have e1 := aEq1_sound (d := d) hds he hvx.1 hvy.1 w
            simp [Op.eqFields, hb', p1, p2, e1]
          · cases h
        · cases h
      · cases h
theorem aEq_sound {op : BinOp} {t : TypeId} {xo yo : Operand} {x y x' y' : Value} {b : Bool} (hop : op = .eql ∨ op = .neq) (hl : aEq T t x y = some b) (hx : VR ρ x x') (hy : VR ρ y y') (w : World) :
    (do eqGuard op t xo yo x' y'; binOp op t x' y' : Sem Value).run P w = .ok (.bool (if op = .neq then !b else b)) w := by
  unfold aEq at hl
  split at hl
  · rename_i i hi
    have s := tsp hT hi
    obtain ⟨ds, hds, hud⟩ := und s
    split at hl
    · rename_i fs xs ys hfs
      split at hl
      · rename_i heq
        obtain ⟨h1, h2⟩ := s.eqok heq
        rw [hud] at hfs
        obtain ⟨gs, rfl, rfl⟩ := udOf_struct hfs.symm
        obtain ⟨xs', rfl⟩ : ∃ z, x' = .agg z := by cases hx; exact ⟨_, rfl⟩
        obtain ⟨ys', rfl⟩ : ∃ z, y' = .agg z := by cases hy; exact ⟨_, rfl⟩
        have hfo : P.fieldsOf t = gs := by simp [Program.fieldsOf, hds]
        have e1 := aEqFields_sound (P := P) (d := 9998) hT (VR.agg_iff.1 hx) (VR.agg_iff.1 hy) w gs.toList b hl
        have e2 := run_equalIn_struct (P := P) w 9999 t xs' ys' (by rw [hfo]; exact hds) h1
        rw [hfo, e1] at e2
        rcases hop with rfl | rfl
        · simp [run_eqGuard_agg w _ t xo yo xs' ys' h2, run_eql_struct, e2]
        · simp [run_eqGuard_agg w _ t xo yo xs' ys' h2, run_neq_struct, e2]
      · cases hl
    · rename_i u hn
      rw [hud] at hl
      have e1 := aEq1_sound (d := 9999) hds hl hx hy w
      have hg : (eqGuard op t xo yo x' y').run P w = .ok () w ∧ binOp op t x' y' = (match op with | .neq => do pure (.bool (!(← Op.equal t x' y'))) | _ => do pure (.bool (← Op.equal t x' y'))) ∨
          (∃ k a k' c, x' = .int k a ∧ y' = .int k' c) ∨ (∃ a c, x' = .string a ∧ y' = .string c) := by
        generalize udOf ds = u at hl
        unfold aEq1 at hl
        split at hl <;> first
          | (cases hl; done)
          | (rw [int_inv hx, int_inv hy]; exact .inr (.inl ⟨_, _, _, _, rfl, rfl⟩))
          | (rw [string_inv hx, string_inv hy]; exact .inr (.inr ⟨_, _, rfl, rfl⟩))
          | (rcases hop with rfl | rfl <;> cases hx <;> cases hy <;> exact .inl ⟨rfl, rfl⟩)
      rcases hg with ⟨g1, g2⟩ | ⟨k, a, k', c, rfl, rfl⟩ | ⟨a, c, rfl, rfl⟩
      · rcases hop with rfl | rfl <;> simp [g1, g2, Op.equal, Op.maxDepth, e1]
      · cases hx; cases hy
        generalize udOf ds = u at hl
        unfold aEq1 at hl
        split at hl <;> rename_i hh1 hh2 <;> first | (cases hl; done) | (cases hh1; done) | skip
        cases hh1; cases hh2
        split at hl
        · rename_i hk; cases hl; subst hk
          rcases hop with rfl | rfl <;> simp [eqGuard, binOp, Op.intCmp, bne]
        · cases hl
      · cases hx; cases hy
        generalize udOf ds = u at hl
        unfold aEq1 at hl
        split at hl <;> rename_i hh1 hh2 <;> first | (cases hl; done) | (cases hh1; done) | skip
        cases hh1; cases hh2; cases hl
        rcases hop with rfl | rfl <;> simp [eqGuard, binOp, Op.stringOp, beq_toListBytes]
  · cases hl
theorem aBin_sound {op : BinOp} {t : TypeId} {xo yo : Operand} {x y x' y' v : Value} (hl : aBin T op t x y = some v) (hx : VR ρ x x') (hy : VR ρ y y') (w : World) :
    ∃ v', (do eqGuard op t xo yo x' y'; binOp op t x' y' : Sem Value).run P w = .ok v' w ∧ VR ρ v v' := by
  unfold aBin at hl
  split at hl
  · obtain rfl := int_inv hx; obtain rfl := int_inv hy
    obtain ⟨h1, h2⟩ := pureV_run hl P w
    refine ⟨v, ?_, .simple h2⟩
    simp [eqGuard_at_int, h1]
  · obtain rfl := string_inv hx; obtain rfl := string_inv hy
    obtain ⟨h1, h2⟩ := pureV_run hl P w
    refine ⟨v, ?_, .simple h2⟩
    simp [eqGuard_at_string, h1]
  · split at hl
    · cases hb : aEq T t x y with
      | none => rw [hb] at hl; cases hl
      | some b =>
        rw [hb] at hl; cases hl
        exact ⟨_, aEq_sound (P := P) (op := .eql) hT (.inl rfl) hb hx hy w, by simpa using VR.bool b⟩
    · cases hb : aEq T t x y with
      | none => rw [hb] at hl; cases hl
      | some b =>
        rw [hb] at hl; cases hl
        exact ⟨_, aEq_sound (P := P) (op := .neq) hT (.inr rfl) hb hx hy w, by simpa using VR.bool _⟩
    · cases hl
end
end Go.AI
