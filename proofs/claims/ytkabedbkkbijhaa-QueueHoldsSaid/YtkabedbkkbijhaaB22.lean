/-
  THE QUEUE'S LAWS: the chapter's example. (Own work; steps printed by wip/gen/walk.py.)
-/
import Derived.Test.YtkabedbkkbijhaaB21
namespace Go.AI.Q
open Go Go.AI Go.Proofs
attribute [local irreducible] xOps xw
/-- A desk in the heap, and its blocks. -/
def Dk (h : AH) (D : Nat) (d : DeskM) (F : List Nat) : Prop := ∃ m gs bs clk, DeskR h D m gs bs clk d ∧ F = Fp D m gs
theorem Dk.keep {h h' : AH} {D : Nat} {d : DeskM} {F : List Nat} (R : Dk h D d F) (hk : ∀ B ∈ F, ∀ o, h.get B = some o → h'.get B = some o) : Dk h' D d F := by
  obtain ⟨m, gs, bs, clk, R, rfl⟩ := R
  exact ⟨m, gs, bs, clk, R.keep hk, rfl⟩
theorem Dk.le {h h' : AH} {D : Nat} {d : DeskM} {F : List Nat} (R : Dk h D d F) (x : Le h h') : Dk h' D d F := R.keep fun _ _ _ e => x.get e
theorem Dk.but {h h' : AH} {D : Nat} {d : DeskM} {F bs : List Nat} (R : Dk h D d F) (x : But bs h h') (hn : ∀ b ∈ bs, b ∉ F) : Dk h' D d F := R.keep fun B hB _ e => x.get e fun hm => hn B hm hB
theorem Dk.lt {h : AH} {D : Nat} {d : DeskM} {F : List Nat} (R : Dk h D d F) : ∀ b ∈ F, b < h.n := by
  obtain ⟨m, gs, bs, clk, R, rfl⟩ := R
  exact fun b hb => R.lt hb
/-- What a desk's doing keeps. -/
structure Went (h h' : AH) (F F' : List Nat) : Prop where
  n : h.n ≤ h'.n
  fp : ∀ b ∈ F', b ∈ F ∨ h.n ≤ b
  keep : ∀ b o, h.get b = some o → b ∉ F → h'.get b = some o
theorem dk_new {q o : Int} {h : AH} {Q : AO → AH → Prop} (hq : 1 ≤ q ∧ q ≤ 4096) (ho : 1 ≤ o ∧ o ≤ 4096) (hQ : ∀ h' D F, Le h h' → Dk h' D ⟨q, o, []⟩ F → (∀ b ∈ F, h.n ≤ b) → Q (.ret (.pointer (some ⟨D, 0, none⟩))) h') : C 8 [configV q o] h Q := by
  refine new_ok hq ho fun h' D m hle h1 h2 h3 h4 h5 => hQ h' D (Fp D m []) hle ⟨m, [], [], 0, ⟨h4, h5, rfl, rfl, .nil, fun b hb => by simp at hb, fun i l g hl => by simp at hl, ⟨h3, fun i g hg => by simp at hg, fun i j g g' _ hg => by simp at hg⟩, .nil⟩, rfl⟩ fun b hb => ?_
  simp [Fp] at hb
  rcases hb with rfl | rfl <;> assumption
theorem dk_do {h : AH} {D : Nat} {d : DeskM} {F : List Nat} {stamp : Int} {c : Cmd} {outs : List Out} {ov : Value} {Q : AO → AH → Prop} (R : Dk h D d F) (S : Sane d) (O : OutsOk c outs) (hov : c.kind = 1 → ov = outsV outs) (hst : findAt d.lines stamp = none)
    (hQ : ∀ h' F', Dk h' D (doM d stamp c outs).d F' → Went h h' F F' → Q (.ret (.tuple #[ansV (doM d stamp c outs).err (doM d stamp c outs).n (doM d stamp c outs).ms, refsV (doM d stamp c outs).refs])) h') :
    C 11 [.pointer (some ⟨D, 0, none⟩), .int .i64 stamp, cmdOf c, ov] h Q := by
  obtain ⟨m, gs, bs, clk, R, rfl⟩ := R
  exact do_ok R S O hov hst fun h' gs' bs' clk' hn R' hf hk => hQ h' _ ⟨m, gs', bs', clk', R', rfl⟩ ⟨hn, hf, hk⟩
theorem dk_live {h : AH} {D : Nat} {d : DeskM} {F : List Nat} {Q : AO → AH → Prop} (R : Dk h D d F) (hQ : Q (.ret (.int .i64 d.lines.length)) h) : C 14 [.pointer (some ⟨D, 0, none⟩)] h Q := by
  obtain ⟨m, gs, bs, clk, R, rfl⟩ := R
  exact live_ok R hQ
theorem dk_waiting {h : AH} {D : Nat} {d : DeskM} {F : List Nat} {id : Int} {Q : AO → AH → Prop} (R : Dk h D d F) (hQ : Q (.ret (.int .i64 (waitM d id))) h) : C 15 [.pointer (some ⟨D, 0, none⟩), .int .i64 id] h Q := by
  obtain ⟨m, gs, bs, clk, R, rfl⟩ := R
  exact waiting_ok R hQ
theorem dk_lost {h : AH} {D : Nat} {d : DeskM} {F : List Nat} {id : Int} {Q : AO → AH → Prop} (R : Dk h D d F) (hQ : Q (.ret (.bool (lostM d id))) h) : C 16 [.pointer (some ⟨D, 0, none⟩), .int .i64 id] h Q := by
  obtain ⟨m, gs, bs, clk, R, rfl⟩ := R
  exact lost_ok R hQ
theorem dk_held {h : AH} {D : Nat} {d : DeskM} {F : List Nat} {Q : AO → AH → Prop} (R : Dk h D d F) (hb : heldM d < 4611686018427387904) (hrl : ∀ l ∈ d.lines, l.row.length < 4611686018427387904) (hQ : ∀ h', Le h h' → Q (.ret (.int .i64 (heldM d))) h') : C 12 [.pointer (some ⟨D, 0, none⟩)] h Q := by
  obtain ⟨m, gs, bs, clk, R, rfl⟩ := R
  exact held_ok R hb hrl hQ
/-! ### the example -/
def o1 : Out := ⟨[⟨1, ⟨[[5]], [⟨5, 0⟩]⟩⟩, ⟨1, ⟨[[6]], [⟨6, 0⟩]⟩⟩], []⟩
def e0 : DeskM := ⟨2, 1, []⟩
def e1 : DeskM := ⟨2, 1, [⟨1, [], false⟩]⟩
def e2 : DeskM := ⟨2, 1, [⟨1, [⟨[[5]], [⟨5, 0⟩]⟩], true⟩]⟩
def e3 : DeskM := ⟨2, 1, [⟨1, [], true⟩]⟩
theorem e1_eq : doM e0 1 ⟨2, 0, 0, ⟨0, 0⟩⟩ [] = ⟨0, 1, [], [], e1⟩ := rfl
theorem e2_eq : doM e1 2 ⟨1, 0, 0, ⟨9, 0⟩⟩ [o1] = ⟨0, 2, [], [⟨6, 0⟩, ⟨9, 0⟩], e2⟩ := by rfl
theorem e3_eq : doM e2 3 ⟨4, 1, 5, ⟨0, 0⟩⟩ [] = ⟨0, 0, [[[5]]], [⟨5, 0⟩], e3⟩ := by rfl
theorem e4_eq : doM e3 4 ⟨4, 1, 5, ⟨0, 0⟩⟩ [] = ⟨20, 0, [], [], e3⟩ := by rfl
theorem nilOuts (c : Cmd) (h : c.kind ≠ 1) : OutsOk c [] := ⟨fun e => absurd e h, by simp, fun o ho => (by cases ho), by decide⟩
end Go.AI.Q
