/- WordReckons: two slices of tables that grow side by side; the tables that came in. -/
import Derived.Test.YtiojnjihbidbiaaGreatReck2
namespace Go.Proofs.YtiojnjihbidbiaaGreat
open Go.RowKit
attribute [local go_sem ↓] Go.wp_at_zero Go.wp_at_succ
set_option linter.unusedVariables false

abbrev wordCells (z : List Nat) : Array Value := ints .u64 z

/-- The i-th function of the words that came in. -/
def FI (z : List Nat) (i : Nat) : Fun := fn4 (K0 z (i * 4)) (K0 z (i * 4 + 1)) (K0 z (i * 4 + 2)) (K0 z (i * 4 + 3))
theorem K0_lt {z : List Nat} (h : ∀ x ∈ z, x < 2 ^ 64) (i : Nat) : K0 z i < 2 ^ 64 := by
  unfold K0
  rw [List.getD_eq_getElem?_getD]
  cases e : z[i]? with
  | none => simp
  | some x => exact h x (List.mem_of_getElem? e)
theorem FI_wd {z : List Nat} (h : ∀ x ∈ z, x < 2 ^ 64) (i : Nat) : wd (FI z i) 0 = K0 z (i * 4) ∧ wd (FI z i) 1 = K0 z (i * 4 + 1) ∧ wd (FI z i) 2 = K0 z (i * 4 + 2) ∧ wd (FI z i) 3 = K0 z (i * 4 + 3) :=
  fn4_wd (K0_lt h _) (K0_lt h _) (K0_lt h _) (K0_lt h _)
theorem FI_cells {w : World} {b : Nat} {z : List Nat} {t : TypeId} (hB : Blk w b (wordCells z) t) (h : ∀ x ∈ z, x < 2 ^ 64) {i : Nat} (hi : i * 4 + 3 < z.length) :
    w.cell? ⟨b, i * 4, none⟩ = some (.int .u64 (wd (FI z i) 0 : Nat)) ∧ w.cell? ⟨b, i * 4 + 1, none⟩ = some (.int .u64 (wd (FI z i) 1 : Nat)) ∧ w.cell? ⟨b, i * 4 + 2, none⟩ = some (.int .u64 (wd (FI z i) 2 : Nat)) ∧ w.cell? ⟨b, i * 4 + 3, none⟩ = some (.int .u64 (wd (FI z i) 3 : Nat)) := by
  obtain ⟨e0, e1, e2, e3⟩ := FI_wd h i
  rw [e0, e1, e2, e3]
  exact ⟨hB.cell _ (ints_get .u64 z _ (by omega)), hB.cell _ (ints_get .u64 z _ (by omega)), hB.cell _ (ints_get .u64 z _ (by omega)), hB.cell _ (ints_get .u64 z _ (by omega))⟩
/-- Four words are one function's table. -/
theorem words4 {z : List Nat} (hl : z.length = 4) (h : ∀ x ∈ z, x < 2 ^ 64) : wordCells z = tcells (FI z 0) := by
  obtain ⟨e0, e1, e2, e3⟩ := FI_wd h 0
  have key : ∀ (z : List Nat), z.length = 4 → ints .u64 z = #[.int .u64 (K0 z 0 : Nat), .int .u64 (K0 z 1 : Nat), .int .u64 (K0 z 2 : Nat), .int .u64 (K0 z 3 : Nat)] := fun z hl => by
    match z, hl with
    | [a, b, c, d], _ => rfl
  show ints .u64 z = #[.int .u64 (wd (FI z 0) 0 : Nat), .int .u64 (wd (FI z 0) 1 : Nat), .int .u64 (wd (FI z 0) 2 : Nat), .int .u64 (wd (FI z 0) 3 : Nat)]
  simp only [e0, e1, e2, e3]
  exact key z hl

/-- A function of the words, of six variables alone. -/
def TF (z : List Nat) (i : Nat) : Fun := trimF (FI z i) 6 2
theorem TF_dep (z : List Nat) (i : Nat) : Dep 6 (TF z i) := trimF_dep (n := 6) (fn4_dep _ _ _ _) (by omega)

structure TwoTabs (w : World) (lv mv : Value) (Fs Gs : List Fun) (wr : World) : Prop where
  l : TabsAt wr lv Fs
  m : TabsAt wr mv Gs
  fr : Fr [] w wr
  lown : ∀ k, lv.ownBlock = some k → w.heap.size ≤ k
  mown : ∀ k, mv.ownBlock = some k → w.heap.size ≤ k
  apart : ∀ k, lv.ownBlock = some k → mv.ownBlock ≠ some k

theorem TwoTabs.start (w : World) : TwoTabs w (.slice none 0 0) (.slice none 0 0) [] [] w := ⟨TabsAt.nil w, TabsAt.nil w, Fr.refl _ _, fun k hk => by (cases hk), fun k hk => by (cases hk), fun k hk => by (cases hk)⟩
theorem TwoTabs.swap {w : World} {lv mv : Value} {l m : List Fun} {wr : World} (h : TwoTabs w lv mv l m wr) : TwoTabs w mv lv m l wr := ⟨h.m, h.l, h.fr, h.mown, h.lown, fun k hk e => h.apart k e hk⟩
theorem TwoTabs.then {w w1 : World} {lv mv : Value} {l m : List Fun} {wr : World} (h : TwoTabs w lv mv l m wr) (f : Fr [] wr w1) : TwoTabs w lv mv l m w1 := ⟨h.l.fr f, h.m.fr f, h.fr.then f, h.lown, h.mown, h.apart⟩

theorem TwoTabs.push {w : World} {lv mv : Value} {l m l' : List Fun} {wr w1 : World} {g cap z : Nat} {F : Fun} {o : Obj} (h : TwoTabs w lv mv l m wr) (e : l' = l ++ [F]) (hz : l.length = z)
    (hown : w1.ownsRow 0 49 4 (.slice (some ⟨g, 0, none⟩) (z + 1) cap) (z + 1) ((l.flatMap fun F => (tcells F).toList) ++ (tcells F).toList)) (hg : (wr.alloc o).grownBy w1 lv.ownBlock) (hat : lv.ownBlock = some g ∨ g = wr.heap.size + 1) :
    TwoTabs w (.slice (some ⟨g, 0, none⟩) (z + 1) cap) mv l' m w1 := by
  subst e
  subst hz
  have s1 := h.fr.size
  have F : Fr lv.ownBlock.toList wr w1 := ((Fr.refl _ wr).alloc o).grown hg (fun k hk => .inl (by simp [hk]))
  refine ⟨?_, row_fr h.m F (fun k hk hm => ?_), h.fr.trans F (fun x hx => ?_), fun k hk => ?_, h.mown, fun k hk hm => ?_⟩
  · unfold TabsAt; rw [List.length_append, List.flatMap_append]; simpa using hown
  · simp only [Option.mem_toList] at hm
    exact h.apart k hm hk
  · simp only [Option.mem_toList] at hx
    exact .inr (h.lown x hx)
  · simp only [Value.ownBlock, Option.some.injEq] at hk
    subst hk
    rcases hat with h1 | h1
    · exact h.lown _ h1
    · omega
  · simp only [Value.ownBlock, Option.some.injEq] at hk
    subst hk
    rcases hat with h1 | h1
    · exact h.apart _ h1 hm
    · have := row_lt h.m hm; omega
end Go.Proofs.YtiojnjihbidbiaaGreat
