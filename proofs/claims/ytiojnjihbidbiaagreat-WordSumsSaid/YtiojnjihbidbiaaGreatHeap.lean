/- Words on worlds for this seat: a block known whole; a world that is another one but for some blocks and new ones. No program. -/
import Derived.WalkKit
import Derived.WalkSpells
import Derived.WalkLawsBesides
namespace Go.Proofs.YtiojnjihbidbiaaGreat
open Go.RowKit

/-- w' is w but for the blocks of O and for new ones. -/
structure Fr (O : List Nat) (w w' : World) : Prop where
  os : w'.os = w.os
  tape : w'.tape = w.tape
  output : w'.output = w.output
  size : w.heap.size ≤ w'.heap.size
  block : ∀ k, k < w.heap.size → k ∉ O → w'.heap[k]? = w.heap[k]?

theorem Fr.refl (O : List Nat) (w : World) : Fr O w w := ⟨rfl, rfl, rfl, Nat.le_refl _, fun _ _ _ => rfl⟩

theorem Fr.trans {O O' : List Nat} {a b c : World} (h : Fr O a b) (k : Fr O' b c) (hO : ∀ x ∈ O', x ∈ O ∨ a.heap.size ≤ x) : Fr O a c :=
  ⟨k.os.trans h.os, k.tape.trans h.tape, k.output.trans h.output, Nat.le_trans h.size k.size, fun i hi hn => by
    rw [k.block i (Nat.lt_of_lt_of_le hi h.size) (fun hm => (hO i hm).elim hn (fun h1 => by omega)), h.block i hi hn]⟩

theorem Fr.then {O : List Nat} {a b c : World} (h : Fr O a b) (k : Fr O b c) : Fr O a c := h.trans k fun _ hx => .inl hx

theorem Fr.mono {O O' : List Nat} {a b : World} (h : Fr O a b) (hO : ∀ x ∈ O, x ∈ O' ∨ a.heap.size ≤ x) : Fr O' a b :=
  ⟨h.os, h.tape, h.output, h.size, fun i hi hn => h.block i hi fun hm => (hO i hm).elim hn (fun h1 => by omega)⟩

theorem Fr.drew {O : List Nat} {a w : World} (h : Fr O a w) : Fr O a w.drew := ⟨h.os, h.tape, h.output, h.size, h.block⟩
theorem Fr.drewN {O : List Nat} {a w : World} (h : Fr O a w) (n : Nat) : Fr O a (w.drewN n) := ⟨h.os, h.tape, h.output, h.size, h.block⟩

theorem Fr.undrew {O : List Nat} {a w : World} (h : Fr O a.drew w) : Fr O a w := ⟨h.os, h.tape, h.output, h.size, h.block⟩

theorem Fr.alloc {O : List Nat} {a w : World} (h : Fr O a w) (o : Obj) : Fr O a (w.alloc o) :=
  ⟨h.os, h.tape, h.output, by have := h.size; simp; omega, fun k hk hn => by rw [Below.heap_alloc _ _ _ (by have := h.size; omega)]; exact h.block k hk hn⟩

theorem Fr.setCell {O : List Nat} {a w : World} (h : Fr O a w) {p : Addr} (v : Value) (hp : p.block ∈ O ∨ a.heap.size ≤ p.block) : Fr O a (w.setCell p v) :=
  ⟨h.os, h.tape, h.output, by have := h.size; simpa [World.setCell] using this, fun k hk hn => by
    rw [Below.heap_setCell _ _ _ _ (fun e => by subst e; exact hp.elim hn (fun h1 => by omega))]; exact h.block k hk hn⟩

theorem Fr.grown {O : List Nat} {a w w' : World} {row : Option Nat} (h : Fr O a w) (hg : w.grownBy w' row) (hr : ∀ k, row = some k → k ∈ O ∨ a.heap.size ≤ k) : Fr O a w' :=
  ⟨hg.os.trans h.os, hg.tape.trans h.tape, hg.output.trans h.output, Nat.le_trans h.size hg.size, fun k hk hn => by
    rw [hg.block k (by have := h.size; omega) (fun e => (hr k e.symm).elim hn (fun h1 => by omega))]; exact h.block k hk hn⟩

theorem Fr.below {O : List Nat} {B : Nat} {w w' : World} (h : Fr O w w') (hB : B ≤ w.heap.size) (hO : ∀ x ∈ O, B ≤ x) : Below B w w' :=
  ⟨h.os, h.tape, h.output, h.size, fun k hk => h.block k (by omega) fun hm => by have := hO k hm; omega⟩

theorem Fr.of_below {w w' : World} (h : Below w.heap.size w w') : Fr [] w w' := ⟨h.os, h.tape, h.output, h.size, fun k hk _ => h.block k hk⟩

theorem lt_of_cell {w : World} {a : Addr} {v : Value} (h : w.cell? a = some v) : a.block < w.heap.size := by
  unfold World.cell? at h
  split at h
  · rename_i c _ _ hb; exact (Array.getElem?_eq_some_iff.1 hb).1
  · cases h

theorem Fr.cell {O : List Nat} {w w' : World} (f : Fr O w w') {a : Addr} {v : Value} (h : w.cell? a = some v) (ha : a.block ∉ O) : w'.cell? a = some v := by
  rw [World.cell?_of_block (w := w) (f.block a.block (lt_of_cell h) ha)]; exact h

theorem Fr.free {O : List Nat} {w w' : World} (f : Fr O w w') {a : Addr} (h : a.block < w.heap.size) (hf : w.frozen? a = false) (ha : a.block ∉ O) : w'.frozen? a = false := by
  rw [World.frozen?_of_block (w := w) (f.block a.block h ha)]; exact hf

/-- Block b is this row of cells; none of them is frozen. -/
def Blk (w : World) (b : Nat) (cs : Array Value) (t : TypeId) : Prop := w.heap[b]? = some (.cells cs t (0, 0))

theorem Blk.lt {w : World} {b : Nat} {cs : Array Value} {t : TypeId} (h : Blk w b cs t) : b < w.heap.size := (Array.getElem?_eq_some_iff.1 h).1
theorem Blk.cell {w : World} {b : Nat} {cs : Array Value} {t : TypeId} (h : Blk w b cs t) (o : Nat) {v : Value} (hv : cs[o]? = some v) : w.cell? ⟨b, o, none⟩ = some v := by
  simp only [World.cell?, show w.heap[b]? = _ from h]; exact hv
theorem Blk.free {w : World} {b : Nat} {cs : Array Value} {t : TypeId} (h : Blk w b cs t) (o : Nat) : w.frozen? ⟨b, o, none⟩ = false := by
  simp [World.frozen?, show w.heap[b]? = _ from h]
theorem Blk.fr {O : List Nat} {w w' : World} {b : Nat} {cs : Array Value} {t : TypeId} (h : Blk w b cs t) (f : Fr O w w') (hb : b ∉ O) : Blk w' b cs t := by
  unfold Blk; rw [f.block b h.lt hb]; exact h
theorem Blk.set {w : World} {b : Nat} {cs : Array Value} {t : TypeId} (h : Blk w b cs t) (o : Nat) (v : Value) : Blk (w.setCell ⟨b, o, none⟩ v) b (cs.setIfInBounds o v) t := by
  simp [Blk, World.setCell, Array.getElem?_modify, show w.heap[b]? = _ from h]
theorem Blk.other {w : World} {b : Nat} {cs : Array Value} {t : TypeId} (h : Blk w b cs t) {p : Addr} (v : Value) (hp : b ≠ p.block) : Blk (w.setCell p v) b cs t := by
  unfold Blk; rw [Below.heap_setCell _ _ _ _ hp]; exact h
theorem Blk.alloc {w : World} {b : Nat} {cs : Array Value} {t : TypeId} (h : Blk w b cs t) (o : Obj) : Blk (w.alloc o) b cs t := by
  unfold Blk; rw [Below.heap_alloc _ _ _ h.lt]; exact h
theorem Blk.new (w : World) (cs : Array Value) (t : TypeId) : Blk (w.alloc (.cells cs t)) w.heap.size cs t := by
  show (w.heap.push _)[w.heap.size]? = _; simp
theorem Blk.drew {w : World} {b : Nat} {cs : Array Value} {t : TypeId} (h : Blk w b cs t) : Blk w.drew b cs t := h
theorem Blk.drewN {w : World} {b : Nat} {cs : Array Value} {t : TypeId} (h : Blk w b cs t) (n : Nat) : Blk (w.drewN n) b cs t := h

/-- A list of numbers as cells of one kind. -/
def ints (k : IntKind) (K : List Nat) : Array Value := (K.map fun x => Value.int k (x : Nat)).toArray
/-- The number at a place; 0 beyond. (A word that the walk does not open.) -/
def K0 (K : List Nat) (i : Nat) : Nat := K.getD i 0
theorem ints_get (k : IntKind) (K : List Nat) (i : Nat) (h : i < K.length) : (ints k K)[i]? = some (.int k (K0 K i : Nat)) := by
  simp [ints, K0, h]
theorem ints_set (k : IntKind) (K : List Nat) (i x : Nat) : (ints k K).setIfInBounds i (.int k (x : Nat)) = ints k (K.set i x) := by
  simp [ints, List.map_set]

/-- Tests on numbers, in the walk's own spelling. -/
theorem ne_test {a b : Nat} (h : a ≠ b) : ((a : Int) == (b : Int)) = false := by rw [beq_eq_false_iff_ne]; omega
theorem ne_test0 {a : Nat} (h : a ≠ 0) : ((a : Int) == 0) = false := by rw [beq_eq_false_iff_ne]; omega
theorem ret_int {k : IntKind} {a b : Int} (h : a = b) : Ending.returned (.int k a) = .returned (.int k b) := by rw [h]
theorem ret_bool {a b : Bool} (h : a = b) : Ending.returned (.bool a) = .returned (.bool b) := by rw [h]

end Go.Proofs.YtiojnjihbidbiaaGreat
