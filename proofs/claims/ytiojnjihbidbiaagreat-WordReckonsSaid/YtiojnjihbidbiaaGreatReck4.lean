/- WordReckons: what lies beside the store. -/
import Derived.Test.YtiojnjihbidbiaaGreatReck3
namespace Go.Proofs.YtiojnjihbidbiaaGreat
open Go.RowKit
attribute [local go_sem ↓] Go.wp_at_zero Go.wp_at_succ
set_option linter.unusedVariables false

theorem rangeF_dep (z : List Nat) {n i : Nat} {F : Fun} (h : (rangeF (TF z) n)[i]? = some F) : Dep 6 F := by
  unfold rangeF at h
  rw [List.getElem?_map] at h
  cases e : (List.range n)[i]? with
  | none => rw [e] at h; cases h
  | some j => rw [e] at h; obtain rfl := Option.some.inj h; exact TF_dep z j

/-- The session's store, the two lists of tables, the choice's table. -/
structure RkAt (w w1 : World) (s : Nat) (B : List Nat) (L : List Bdd.Nd) (pv qv : Value) (Ps Qs : List Fun) (cb : Nat) (C : Fun) : Prop where
  ses : Ses w w1 s B 6 32768 false L
  p : TabsAt w1 pv Ps
  po : ∀ k, pv.ownBlock = some k → k ∉ B
  q : TabsAt w1 qv Qs
  qo : ∀ k, qv.ownBlock = some k → k ∉ B
  c : Blk w1 cb (tcells C) 49
  co : cb ∉ B

section
variable {w w1 w2 : World} {s c : Nat} {B B' : List Nat} {L L' : List Bdd.Nd} {pv qv : Value} {Ps Qs : List Fun} {cb : Nat} {C : Fun}
theorem RkAt.evo (h : RkAt w w1 s B L pv qv Ps Qs cb C) (e : Evo s 6 32768 false B L w1 B' L' w2 c) : RkAt w w2 s B' L' pv qv Ps Qs cb C :=
  ⟨h.ses.evo e, h.p.evo e h.po, fun k hk => not_in e (h.po k hk) (row_lt h.p hk), h.q.evo e h.qo, fun k hk => not_in e (h.qo k hk) (row_lt h.q hk), h.c.fr e.fr h.co, not_in e h.co h.c.lt⟩
theorem RkAt.then (h : RkAt w w1 s B L pv qv Ps Qs cb C) (f : Fr [] w1 w2) : RkAt w w2 s B L pv qv Ps Qs cb C :=
  ⟨h.ses.then f, h.p.fr f, h.po, h.q.fr f, h.qo, h.c.fr f (by simp), h.co⟩

/-- The four answers. -/
def fourF (a b c d : Fn) (i : Nat) : Fn := if i = 0 then a else if i = 1 then b else if i = 2 then c else d
theorem four_row {n : Nat} {w1 : World} {k1 k2 k3 k4 : Nat} {A1 A2 A3 A4 : Fn} (d1 : Den n L k1 A1) (d2 : Den n L k2 A2) (d3 : Den n L k3 A3) (d4 : Den n L k4 A4) :
    HsAt (w1.alloc (.cells #[.int .u32 (k1 : Int), .int .u32 (k2 : Int), .int .u32 (k3 : Int), .int .u32 (k4 : Int)] 28)) (.slice (some ⟨w1.heap.size, 0, none⟩) 4 4) [k1, k2, k3, k4] ∧ DenL n L [k1, k2, k3, k4] (fourF A1 A2 A3 A4) :=
  ⟨row_hs (rs := [k1, k2, k3, k4]) (Blk.new _ _ _) rfl (by omega), fun i h hh => by
    match i, hh with
    | 0, hh => obtain rfl := Option.some.inj hh; exact d1
    | 1, hh => obtain rfl := Option.some.inj hh; exact d2
    | 2, hh => obtain rfl := Option.some.inj hh; exact d3
    | 3, hh => obtain rfl := Option.some.inj hh; exact d4
    | i + 4, hh => simp at hh⟩
end
end Go.Proofs.YtiojnjihbidbiaaGreat
