/- 'Mk', walked: the node of a level and two children, made where it isn't there yet and there is room. -/
import Derived.Test.YtiojnjihbidbiaaGreatStore9
namespace Go.Proofs.YtiojnjihbidbiaaGreat
open Go.RowKit
attribute [local go_sem ↓] Go.wp_at_zero Go.wp_at_succ
set_option linter.unusedVariables false

/-- An answer of a handle and an error. -/
abbrev ansH (h : Nat) (e : Int) : Ending := .returned (.tuple #[.int .u32 (h : Int), .int .i64 e])

/-- What an operation on the store answers: the store has gone on; it is full, or the answer h has what P says of the nodes that are there now. -/
def OpPost (s n room : Nat) (off : Bool) (B : List Nat) (L : List Bdd.Nd) (w : World) (c : Nat) (P : List Bdd.Nd → Nat → Prop) (e : Ending) (w' : World) : Prop :=
  ∃ B' L', Evo s n room off B L w B' L' w' c ∧ ((e = ansH 0 60 ∧ room ≤ L'.length) ∨ ∃ h, e = ansH h 0 ∧ P L' h)

/-- h is the node whose low and high are these, in the table L'. -/
def MkIs (n lv lo hi : Nat) (L L' : List Bdd.Nd) (h : Nat) : Prop :=
  Bdd.IsNd (Bdd.tab L') h ∧ ∀ z, Bdd.D n (Bdd.tab L') h z = if z lv then Bdd.D n (Bdd.tab L) hi z else Bdd.D n (Bdd.tab L) lo z

/-- How many nodes above level 5 a node of level l is. -/
def mkc (l : Nat) : Nat := if l < 5 then 1 else 0

theorem StoreAt.sto {w : World} {s : Nat} {y : Lay} {n room : Nat} {off : Bool} {L : List Bdd.Nd} {K C : List Nat} {sl : Nat → Option Nat} (h : StoreAt w s y n room off L K C sl) : Sto w s (y.blocks s) n room off L :=
  ⟨y, K, C, sl, rfl, h⟩

theorem StoreAt.evo {w w' : World} {s : Nat} {y : Lay} {n room : Nat} {off : Bool} {L : List Bdd.Nd} {K C : List Nat} {sl : Nat → Option Nat} (h : StoreAt w' s y n room off L K C sl) {O : List Nat} (hF : Fr O w w') (hO : ∀ k ∈ O, k ∈ y.blocks s) :
    Evo s n room off (y.blocks s) L w (y.blocks s) L w' 0 :=
  ⟨h.sto, hF.mono (fun k hk => .inl (hO k hk)), fun _ hk => .inl hk, Bdd.Gr.refl h.wf⟩

theorem mkIs_same {n lv lo : Nat} {L : List Bdd.Nd} (hlo : Bdd.IsNd (Bdd.tab L) lo) : MkIs n lv lo lo L L lo := ⟨hlo, fun z => by split <;> rfl⟩

theorem mkIs_node {n i : Nat} {d : Bdd.Nd} {L L' : List Bdd.Nd} {c : Nat} (hw : Bdd.Wf n (Bdd.tab L)) (g : Bdd.Gr n L L' c) (hlo : Bdd.IsNd (Bdd.tab L) d.lo) (hhi : Bdd.IsNd (Bdd.tab L) d.hi) (hd : L'[i]? = some d) : MkIs n d.lv d.lo d.hi L L' (i + 2) := by
  have ht : Bdd.tab L' (i + 2) = some d := by rw [Bdd.tab_two]; exact hd
  exact ⟨.inr ⟨d, ht⟩, fun z => by rw [Bdd.D_node g.wf ht, g.D hw hhi, g.D hw hlo]⟩

end Go.Proofs.YtiojnjihbidbiaaGreat
