/- Words on worlds for this seat: a block known whole; a world that is another one but for some blocks and new ones. No program. -/
import Derived.WalkKit
import Derived.WalkSpells
import Derived.WalkLawsBesides
import Derived.MapKept
namespace Go.Proofs.YtiojnjihbidbiaaGreat
open Go.RowKit

/-- w' is w but for the blocks of O and for new ones. -/
structure Fr (O : List Nat) (w w' : World) : Prop where
  os : w'.os = w.os
  tape : w'.tape = w.tape
  output : w'.output = w.output
  size : w.heap.size ≤ w'.heap.size
  block : ∀ k, k < w.heap.size → k ∉ O → w'.heap[k]? = w.heap[k]?

theorem Fr.refl (O : List Nat) (w : World) : Fr O w w := ⟨rfl, rfl, rfl, Nat.le_refl _, fun _ _ _ => rfl⟩

theorem Fr.trans {O O' : List Nat} {a b c : World} (h : Fr O a b) (k : Fr O' b c) (hO : ∀ x ∈ O', x ∈ O ∨ a.heap.size ≤ x) : Fr O a c :=
  ⟨k.os.trans h.os, k.tape.trans h.tape, k.output.trans h.output, Nat.le_trans h.size k.size, fun i hi hn => by
    rw [k.block i (Nat.lt_of_lt_of_le hi h.size) (fun hm => (hO i hm).elim hn (fun h1 => by omega)), h.block i hi hn]⟩

theorem Fr.then {O : List Nat} {a b c : World} (h : Fr O a b) (k : Fr O b c) : Fr O a c := h.trans k fun _ hx => .inl hx

theorem Fr.mono {O O' : List Nat} {a b : World} (h : Fr O a b) (hO : ∀ x ∈ O, x ∈ O' ∨ a.heap.size ≤ x) : Fr O' a b :=
  ⟨h.os, h.tape, h.output, h.size, fun i hi hn => h.block i hi fun hm => (hO i hm).elim hn (fun h1 => by omega)⟩

theorem Fr.drew {O : List Nat} {a w : World} (h : Fr O a w) : Fr O a w.drew := ⟨h.os, h.tape, h.output, h.size, h.block⟩
theorem Fr.drewN {O : List Nat} {a w : World} (h : Fr O a w) (n : Nat) : Fr O a (w.drewN n) := ⟨h.os, h.tape, h.output, h.size, h.block⟩

theorem Fr.undrew {O : List Nat} {a w : World} (h : Fr O a.drew w) : Fr O a w := ⟨h.os, h.tape, h.output, h.size, h.block⟩

theorem Fr.alloc {O : List Nat} {a w : World} (h : Fr O a w) (o : Obj) : Fr O a (w.alloc o) :=
  ⟨h.os, h.tape, h.output, by have := h.size; simp; omega, fun k hk hn => by rw [Below.heap_alloc _ _ _ (by have := h.size; omega)]; exact h.block k hk hn⟩

theorem Fr.setCell {O : List Nat} {a w : World} (h : Fr O a w) {p : Addr} (v : Value) (hp : p.block ∈ O ∨ a.heap.size ≤ p.block) : Fr O a (w.setCell p v) :=
  ⟨h.os, h.tape, h.output, by have := h.size; simpa [World.setCell] using this, fun k hk hn => by
    rw [Below.heap_setCell _ _ _ _ (fun e => by subst e; exact hp.elim hn (fun h1 => by omega))]; exact h.block k hk hn⟩

theorem Fr.grown {O : List Nat} {a w w' : World} {row : Option Nat} (h : Fr O a w) (hg : w.grownBy w' row) (hr : ∀ k, row = some k → k ∈ O ∨ a.heap.size ≤ k) : Fr O a w' :=
  ⟨hg.os.trans h.os, hg.tape.trans h.tape, hg.output.trans h.output, Nat.le_trans h.size hg.size, fun k hk hn => by
    rw [hg.block k (by have := h.size; omega) (fun e => (hr k e.symm).elim hn (fun h1 => by omega))]; exact h.block k hk hn⟩

theorem Fr.below {O : List Nat} {B : Nat} {w w' : World} (h : Fr O w w') (hB : B ≤ w.heap.size) (hO : ∀ x ∈ O, B ≤ x) : Below B w w' :=
  ⟨h.os, h.tape, h.output, h.size, fun k hk => h.block k (by omega) fun hm => by have := hO k hm; omega⟩

theorem Fr.of_below {w w' : World} (h : Below w.heap.size w w') : Fr [] w w' := ⟨h.os, h.tape, h.output, h.size, fun k hk _ => h.block k hk⟩

theorem lt_of_cell {w : World} {a : Addr} {v : Value} (h : w.cell? a = some v) : a.block < w.heap.size := by
  unfold World.cell? at h
  split at h
  · rename_i c _ _ hb; exact (Array.getElem?_eq_some_iff.1 hb).1
  · cases h

theorem Fr.cell {O : List Nat} {w w' : World} (f : Fr O w w') {a : Addr} {v : Value} (h : w.cell? a = some v) (ha : a.block ∉ O) : w'.cell? a = some v := by
  rw [World.cell?_of_block (w := w) (f.block a.block (lt_of_cell h) ha)]; exact h

theorem Fr.free {O : List Nat} {w w' : World} (f : Fr O w w') {a : Addr} (h : a.block < w.heap.size) (hf : w.frozen? a = false) (ha : a.block ∉ O) : w'.frozen? a = false := by
  rw [World.frozen?_of_block (w := w) (f.block a.block h ha)]; exact hf

/-- Block b is this row of cells; none of them is frozen. -/
def Blk (w : World) (b : Nat) (cs : Array Value) (t : TypeId) : Prop := w.heap[b]? = some (.cells cs t (0, 0))

theorem Blk.lt {w : World} {b : Nat} {cs : Array Value} {t : TypeId} (h : Blk w b cs t) : b < w.heap.size := (Array.getElem?_eq_some_iff.1 h).1
theorem Blk.cell {w : World} {b : Nat} {cs : Array Value} {t : TypeId} (h : Blk w b cs t) (o : Nat) {v : Value} (hv : cs[o]? = some v) : w.cell? ⟨b, o, none⟩ = some v := by
  simp only [World.cell?, show w.heap[b]? = _ from h]; exact hv
theorem Blk.free {w : World} {b : Nat} {cs : Array Value} {t : TypeId} (h : Blk w b cs t) (o : Nat) : w.frozen? ⟨b, o, none⟩ = false := by
  simp [World.frozen?, show w.heap[b]? = _ from h]
theorem Blk.fr {O : List Nat} {w w' : World} {b : Nat} {cs : Array Value} {t : TypeId} (h : Blk w b cs t) (f : Fr O w w') (hb : b ∉ O) : Blk w' b cs t := by
  unfold Blk; rw [f.block b h.lt hb]; exact h
theorem Blk.set {w : World} {b : Nat} {cs : Array Value} {t : TypeId} (h : Blk w b cs t) (o : Nat) (v : Value) : Blk (w.setCell ⟨b, o, none⟩ v) b (cs.setIfInBounds o v) t := by
  simp [Blk, World.setCell, Array.getElem?_modify, show w.heap[b]? = _ from h]
theorem Blk.other {w : World} {b : Nat} {cs : Array Value} {t : TypeId} (h : Blk w b cs t) {p : Addr} (v : Value) (hp : b ≠ p.block) : Blk (w.setCell p v) b cs t := by
  unfold Blk; rw [Below.heap_setCell _ _ _ _ hp]; exact h
theorem Blk.alloc {w : World} {b : Nat} {cs : Array Value} {t : TypeId} (h : Blk w b cs t) (o : Obj) : Blk (w.alloc o) b cs t := by
  unfold Blk; rw [Below.heap_alloc _ _ _ h.lt]; exact h
theorem Blk.new (w : World) (cs : Array Value) (t : TypeId) : Blk (w.alloc (.cells cs t)) w.heap.size cs t := by
  show (w.heap.push _)[w.heap.size]? = _; simp
theorem Blk.drew {w : World} {b : Nat} {cs : Array Value} {t : TypeId} (h : Blk w b cs t) : Blk w.drew b cs t := h
theorem Blk.drewN {w : World} {b : Nat} {cs : Array Value} {t : TypeId} (h : Blk w b cs t) (n : Nat) : Blk (w.drewN n) b cs t := h

/-- A list of numbers as cells of one kind. -/
def ints (k : IntKind) (K : List Nat) : Array Value := (K.map fun x => Value.int k (x : Nat)).toArray
/-- The number at a place; 0 beyond. (A word that the walk does not open.) -/
def K0 (K : List Nat) (i : Nat) : Nat := K.getD i 0
theorem ints_get (k : IntKind) (K : List Nat) (i : Nat) (h : i < K.length) : (ints k K)[i]? = some (.int k (K0 K i : Nat)) := by
  simp [ints, K0, h]
theorem ints_set (k : IntKind) (K : List Nat) (i x : Nat) : (ints k K).setIfInBounds i (.int k (x : Nat)) = ints k (K.set i x) := by
  simp [ints, List.map_set]

/-- Tests on numbers, in the walk's own spelling. -/
theorem ne_test {a b : Nat} (h : a ≠ b) : ((a : Int) == (b : Int)) = false := by rw [beq_eq_false_iff_ne]; omega
theorem ne_test0 {a : Nat} (h : a ≠ 0) : ((a : Int) == 0) = false := by rw [beq_eq_false_iff_ne]; omega
theorem ret_int {k : IntKind} {a b : Int} (h : a = b) : Ending.returned (.int k a) = .returned (.int k b) := by rw [h]
theorem ret_bool {a b : Bool} (h : a = b) : Ending.returned (.bool a) = .returned (.bool b) := by rw [h]

end Go.Proofs.YtiojnjihbidbiaaGreat
/- Maps keyed by integers, over plain functions: look-up and update as equations on the run. No program. -/
namespace Go.Proofs.YtiojnjihbidbiaaGreat
open Go.RowKit

/-- What a list of entries holds at an integer key. -/
def mget (kd : IntKind) : List MapEntry → Int → Option Value
  | [], _ => none
  | e :: es, x => match e.key with
    | .int k y => if k = kd ∧ x = y then some e.val else mget kd es x
    | _ => mget kd es x

/-- Block b is a map whose keys are integers of one kind, and which holds f. -/
def MapAt (w : World) (b : Nat) (kd : IntKind) (f : Int → Option Value) : Prop :=
  ∃ es clock, w.heap[b]? = some (.map es clock) ∧ (∀ e ∈ es.toList, ∃ x, e.key = .int kd x) ∧ ∀ x, mget kd es.toList x = f x

theorem MapAt.lt {w : World} {b : Nat} {kd : IntKind} {f : Int → Option Value} (h : MapAt w b kd f) : b < w.heap.size := by
  obtain ⟨es, c, hb, _⟩ := h
  exact (Array.getElem?_eq_some_iff.1 hb).1
theorem MapAt.fr {O : List Nat} {w w' : World} {b : Nat} {kd : IntKind} {f : Int → Option Value} (h : MapAt w b kd f) (fr : Fr O w w') (hb : b ∉ O) : MapAt w' b kd f := by
  have hl := h.lt
  obtain ⟨es, c, he, r⟩ := h
  exact ⟨es, c, by rw [fr.block b hl hb]; exact he, r⟩

theorem MapAt.new (w : World) (kd : IntKind) : MapAt (w.alloc (.map #[] 0)) w.heap.size kd (fun _ => none) :=
  ⟨#[], 0, by show (w.heap.push _)[w.heap.size]? = _; simp, by simp, fun x => rfl⟩

theorem findNow_int (kd : IntKind) (x : Int) : ∀ (es : List MapEntry) (i : Nat), (∀ e ∈ es, ∃ y, e.key = .int kd y) →
    (mget kd es x = none ∧ Instr.findNow (.int kd) (.int kd x) es i = some none) ∨
    ∃ j v, mget kd es x = some v ∧ Instr.findNow (.int kd) (.int kd x) es i = some (some (i + j, v)) ∧ (∃ e, es[j]? = some e ∧ e.key = .int kd x) ∧
      ∀ (v' : Value) y, mget kd (es.modify j fun e => { e with key := .int kd x, val := v' }) y = if y = x then some v' else mget kd es y
  | [], i, _ => .inl ⟨rfl, rfl⟩
  | e :: es, i, h => by
    obtain ⟨y, hy⟩ := h e (by simp)
    by_cases hxy : x = y
    · refine .inr ⟨0, e.val, ?_, ?_, ⟨e, rfl, by rw [hy, hxy]⟩, ?_⟩
      · simp [mget, hy, hxy]
      · simp [Instr.findNow, Instr.sameNow, hy, hxy]
      · intro v' z
        simp only [List.modify_zero_cons, mget, hy, true_and]
        by_cases hz : z = x
        · rw [if_pos hz, if_pos hz]
        · rw [if_neg hz, if_neg hz, if_neg (fun e => hz (e.trans hxy.symm))]
    · rcases findNow_int kd x es (i + 1) (fun e he => h e (by simp [he])) with ⟨h1, h2⟩ | ⟨j, v, h1, h2, ⟨e', he', hk'⟩, h3⟩
      · refine .inl ⟨?_, ?_⟩
        · simp [mget, hy, hxy, h1]
        · simp [Instr.findNow, Instr.sameNow, hy, beq_false_of_ne hxy, h2]
      · refine .inr ⟨j + 1, v, ?_, ?_, ⟨e', by simpa using he', hk'⟩, ?_⟩
        · simp [mget, hy, hxy, h1]
        · simp [Instr.findNow, Instr.sameNow, hy, beq_false_of_ne hxy, h2]; omega
        · intro v' z
          simp only [List.modify_succ_cons, mget, hy, true_and]
          rw [h3 v' z]
          by_cases hz : z = y
          · rw [if_pos hz, if_neg (fun e => hxy (e.symm.trans hz)), if_pos hz]
          · rw [if_neg hz, if_neg hz]

theorem mget_push (kd : IntKind) (x : Int) (v : Value) (c : Nat) : ∀ (es : List MapEntry), mget kd es x = none → (∀ e ∈ es, ∃ y, e.key = .int kd y) →
    ∀ y, mget kd (es ++ [{ key := .int kd x, val := v, born := c }]) y = if y = x then some v else mget kd es y
  | [], _, _, y => by simp [mget]
  | e :: es, h, hk, y => by
    obtain ⟨z, hz⟩ := hk e (by simp)
    simp only [mget, hz, true_and] at h
    simp only [List.cons_append, mget, hz, true_and]
    by_cases hxz : x = z
    · rw [if_pos hxz] at h; cases h
    · rw [if_neg hxz] at h
      rw [mget_push kd x v c es h (fun e he => hk e (by simp [he])) y]
      by_cases hyz : y = z
      · rw [if_pos hyz, if_neg (fun e => hxz (e.symm.trans hyz)), if_pos hyz]
      · rw [if_neg hyz, if_neg hyz]

section
variable {P : Program} {w : World} {t k e : TypeId} {kd : IntKind} {b : Nat} {f : Int → Option Value}

theorem isKey_int (x : Int) : MapKept.IsKey (.int kd) (.int kd x) := by simp [MapKept.IsKey]

/-- 'v, ok := m[x]'. -/
theorem run_lookup_ok (ht : P.underlying t = some (.map k e)) (hk : P.underlying k = some (.int kd)) (hM : MapAt w b kd f) {z : Value} (hz : (zeroValue e).run P w = .ok z w) (x : Int) :
    (Instr.lookup t (.map (some b)) (.int kd x) true).run P w = .ok (.tuple #[(f x).getD z, .bool (f x).isSome]) w := by
  obtain ⟨es, c, hb, hkeys, hf⟩ := hM
  rcases findNow_int kd x es.toList 0 hkeys with ⟨h1, h2⟩ | ⟨j, v, h1, h2, _⟩
  · rw [hf] at h1
    simp [Instr.lookup, run_underlying ht, MapKept.run_getObj_map hb, MapKept.run_checkKey hk (isKey_int x), MapKept.run_findKey hk h2, hz, h1, Result.andThen]
  · rw [hf] at h1
    simp [Instr.lookup, run_underlying ht, MapKept.run_getObj_map hb, MapKept.run_checkKey hk (isKey_int x), MapKept.run_findKey hk h2, h1, Result.andThen]

/-- 'm[x]'. -/
theorem run_lookup_plain (ht : P.underlying t = some (.map k e)) (hk : P.underlying k = some (.int kd)) (hM : MapAt w b kd f) {z : Value} (hz : (zeroValue e).run P w = .ok z w) (x : Int) :
    (Instr.lookup t (.map (some b)) (.int kd x) false).run P w = .ok ((f x).getD z) w := by
  obtain ⟨es, c, hb, hkeys, hf⟩ := hM
  rcases findNow_int kd x es.toList 0 hkeys with ⟨h1, h2⟩ | ⟨j, v, h1, h2, _⟩
  · rw [hf] at h1
    simp [Instr.lookup, run_underlying ht, MapKept.run_getObj_map hb, MapKept.run_checkKey hk (isKey_int x), MapKept.run_findKey hk h2, hz, h1, Result.andThen]
  · rw [hf] at h1
    simp [Instr.lookup, run_underlying ht, MapKept.run_getObj_map hb, MapKept.run_checkKey hk (isKey_int x), MapKept.run_findKey hk h2, h1, Result.andThen]

/-- 'm[x] = v'. -/
theorem run_mapUpdate_int (ht : P.underlying t = some (.map k e)) (hk : P.underlying k = some (.int kd)) (hM : MapAt w b kd f) (x : Int) (v : Value) :
    ∃ w', (Instr.mapUpdate t (.map (some b)) (.int kd x) v).run P w = .ok () w' ∧ MapAt w' b kd (fun y => if y = x then some v else f y) ∧ Fr [b] w w' := by
  obtain ⟨es, c, hb, hkeys, hf⟩ := hM
  have hlt := (Array.getElem?_eq_some_iff.1 hb).1
  rcases findNow_int kd x es.toList 0 hkeys with ⟨h1, h2⟩ | ⟨j, v0, h1, h2, ⟨e', he', hk'⟩, h3⟩
  · refine ⟨{ w with heap := w.heap.setIfInBounds b (.map (es.push { key := .int kd x, val := v, born := c }) (c + 1)) }, ?_, ⟨es.push { key := .int kd x, val := v, born := c }, c + 1, ?_, ?_, ?_⟩, ?_⟩
    · simp [Instr.mapUpdate, run_underlying ht, MapKept.run_getObj_map hb, MapKept.run_checkKey hk (isKey_int x), MapKept.run_findKey hk h2, MapKept.run_setObj_map _ hb, Result.andThen]
    · simp [hlt]
    · intro y hy
      rw [Array.toList_push] at hy
      rcases List.mem_append.1 hy with hy | hy
      · exact hkeys y hy
      · rw [List.mem_singleton] at hy; subst hy; exact ⟨x, rfl⟩
    · intro y
      rw [Array.toList_push, mget_push kd x v c es.toList h1 hkeys y, hf]
    · refine ⟨rfl, rfl, rfl, by simp, fun k' hk1 hk2 => ?_⟩
      simp only [List.mem_singleton] at hk2
      simp [Ne.symm hk2]
  · refine ⟨{ w with heap := w.heap.setIfInBounds b (.map (es.modify j fun e => { e with key := .int kd x, val := v }) c) }, ?_, ⟨es.modify j fun e => { e with key := .int kd x, val := v }, c, ?_, ?_, ?_⟩, ?_⟩
    · have hs := MapKept.run_keyThatStays (P := P) (w := w) (isKey_int (kd := kd) x)
      have hj : (es[j]?.map (·.key)).getD (.int kd x) = .int kd x := by
        rw [← Array.getElem?_toList, he']; simp [hk']
      simp [Instr.mapUpdate, run_underlying ht, MapKept.run_getObj_map hb, MapKept.run_checkKey hk (isKey_int x), MapKept.run_findKey hk h2, hj, hs, MapKept.run_setObj_map _ hb, Result.andThen]
    · simp [hlt]
    · intro y hy
      rw [Array.toList_modify] at hy
      obtain ⟨i, hi⟩ := List.mem_iff_getElem?.1 hy
      rw [List.getElem?_modify] at hi
      obtain ⟨a, ha, hya⟩ := Option.map_eq_some_iff.1 hi
      split at hya
      · subst hya; exact ⟨x, rfl⟩
      · subst hya; exact hkeys a (List.mem_iff_getElem?.2 ⟨i, ha⟩)
    · intro y
      rw [Array.toList_modify, h3 v y, hf]
    · refine ⟨rfl, rfl, rfl, by simp, fun k' hk1 hk2 => ?_⟩
      simp only [List.mem_singleton] at hk2
      simp [Ne.symm hk2]
end

end Go.Proofs.YtiojnjihbidbiaaGreat
/- The plain theory of reduced ordered decision diagrams: a table of nodes, what a handle denotes, that it denotes it alone. No Go, no program. -/
namespace Go.Proofs.YtiojnjihbidbiaaGreat.Bdd

/-- A node: its level and its two children. -/
structure Nd where
  lv : Nat
  lo : Nat
  hi : Nat

/-- Which handle (from 2 on) is which node. -/
abbrev Tab := Nat → Option Nd

def IsNd (T : Tab) (h : Nat) : Prop := h < 2 ∨ ∃ d, T h = some d

/-- The level of a handle among n levels; n of the constants. -/
def lev (n : Nat) (T : Tab) (h : Nat) : Nat :=
  if h < 2 then n else match T h with
    | some d => d.lv
    | none => n

structure Wf (n : Nat) (T : Tab) : Prop where
  ge2 : ∀ {h d}, T h = some d → 2 ≤ h
  lv : ∀ {h d}, T h = some d → d.lv < n
  lo : ∀ {h d}, T h = some d → IsNd T d.lo
  hi : ∀ {h d}, T h = some d → IsNd T d.hi
  llo : ∀ {h d}, T h = some d → d.lv < lev n T d.lo
  lhi : ∀ {h d}, T h = some d → d.lv < lev n T d.hi
  ne : ∀ {h d}, T h = some d → d.lo ≠ d.hi
  uniq : ∀ {h k d}, T h = some d → T k = some d → h = k

/-- What a handle denotes, of the values at the levels; f: how deep to look. -/
def den (T : Tab) : Nat → Nat → (Nat → Bool) → Bool
  | 0, h, _ => h == 1
  | f + 1, h, y =>
    if h < 2 then h == 1 else match T h with
      | some d => if y d.lv then den T f d.hi y else den T f d.lo y
      | none => false

def D (n : Nat) (T : Tab) (h : Nat) (y : Nat → Bool) : Bool := den T n h y

theorem IsNd.zero (T : Tab) : IsNd T 0 := .inl (by omega)
theorem IsNd.one (T : Tab) : IsNd T 1 := .inl (by omega)
theorem IsNd.node {T : Tab} {h : Nat} (hh : IsNd T h) (h2 : 2 ≤ h) : ∃ d, T h = some d := hh.resolve_left (by omega)

theorem lev_const {n : Nat} {T : Tab} {h : Nat} (hh : h < 2) : lev n T h = n := by simp [lev, hh]
theorem lev_node {n : Nat} {T : Tab} {h : Nat} {d : Nd} (h2 : 2 ≤ h) (hd : T h = some d) : lev n T h = d.lv := by
  have : ¬ h < 2 := by omega
  simp [lev, this, hd]
theorem lev_le {n : Nat} {T : Tab} (hw : Wf n T) (h : Nat) : lev n T h ≤ n := by
  unfold lev
  split
  · exact Nat.le_refl _
  · split
    · rename_i d hd; exact Nat.le_of_lt (hw.lv hd)
    · exact Nat.le_refl _
theorem lev_lt_node {n : Nat} {T : Tab} {h : Nat} (hh : IsNd T h) (hl : lev n T h < n) : 2 ≤ h ∧ ∃ d, T h = some d ∧ lev n T h = d.lv := by
  by_cases h2 : h < 2
  · rw [lev_const h2] at hl; omega
  · obtain ⟨d, hd⟩ := hh.node (by omega)
    exact ⟨by omega, d, hd, lev_node (by omega) hd⟩

theorem den_const {T : Tab} (f h : Nat) (y : Nat → Bool) (hh : h < 2) : den T f h y = (h == 1) := by
  cases f <;> simp [den, hh]
theorem den_succ {T : Tab} {f h : Nat} {d : Nd} (y : Nat → Bool) (h2 : 2 ≤ h) (hd : T h = some d) :
    den T (f + 1) h y = if y d.lv then den T f d.hi y else den T f d.lo y := by
  have : ¬ h < 2 := by omega
  simp [den, this, hd]

/-- With enough depth more changes nothing. -/
theorem den_more {n : Nat} {T : Tab} (hw : Wf n T) (y : Nat → Bool) : ∀ (f g h : Nat), IsNd T h → n ≤ lev n T h + f → n ≤ lev n T h + g → den T f h y = den T g h y
  | 0, g, h, hh, hf, hg => by
    have h2 : h < 2 := by
      rcases Nat.lt_or_ge h 2 with h2 | h2
      · exact h2
      · obtain ⟨d, hd⟩ := hh.node h2
        have := hw.lv hd; rw [lev_node h2 hd] at hf; omega
    rw [den_const _ _ _ h2, den_const _ _ _ h2]
  | f + 1, g, h, hh, hf, hg => by
    rcases Nat.lt_or_ge h 2 with h2 | h2
    · rw [den_const _ _ _ h2, den_const _ _ _ h2]
    · obtain ⟨d, hd⟩ := hh.node h2
      have hl := hw.lv hd
      rw [lev_node h2 hd] at hf hg
      obtain ⟨g, rfl⟩ : ∃ k, g = k + 1 := ⟨g - 1, by omega⟩
      rw [den_succ y h2 hd, den_succ y h2 hd]
      have a := hw.llo hd
      have b := hw.lhi hd
      split
      · exact den_more hw y f g _ (hw.hi hd) (by omega) (by omega)
      · exact den_more hw y f g _ (hw.lo hd) (by omega) (by omega)

theorem D_zero {n : Nat} {T : Tab} (y : Nat → Bool) : D n T 0 y = false := by rw [D, den_const _ _ _ (by omega)]; rfl
theorem D_one {n : Nat} {T : Tab} (y : Nat → Bool) : D n T 1 y = true := by rw [D, den_const _ _ _ (by omega)]; rfl
theorem D_const {n : Nat} {T : Tab} {h : Nat} (hh : h < 2) (y : Nat → Bool) : D n T h y = (h == 1) := by rw [D, den_const _ _ _ hh]
theorem D_node {n : Nat} {T : Tab} (hw : Wf n T) {h : Nat} {d : Nd} (hd : T h = some d) (y : Nat → Bool) :
    D n T h y = if y d.lv then D n T d.hi y else D n T d.lo y := by
  have h2 := hw.ge2 hd
  have hl := hw.lv hd
  obtain ⟨m, rfl⟩ : ∃ m, n = m + 1 := ⟨n - 1, by omega⟩
  have a := hw.llo hd
  have b := hw.lhi hd
  unfold D
  rw [den_succ y h2 hd]
  split
  · exact den_more hw y _ _ _ (hw.hi hd) (by omega) (by omega)
  · exact den_more hw y _ _ _ (hw.lo hd) (by omega) (by omega)

/-- A handle's function hangs on its own level and deeper ones alone. -/
theorem D_dep {n : Nat} {T : Tab} (hw : Wf n T) : ∀ (m h : Nat), n ≤ lev n T h + m → IsNd T h → ∀ y z : Nat → Bool, (∀ l, lev n T h ≤ l → l < n → y l = z l) → D n T h y = D n T h z
  | 0, h, hm, hh, y, z, hyz => by
    have h2 : h < 2 := by
      rcases Nat.lt_or_ge h 2 with h2 | h2
      · exact h2
      · obtain ⟨d, hd⟩ := hh.node h2
        have := hw.lv hd; rw [lev_node h2 hd] at hm; omega
    rw [D_const h2, D_const h2]
  | m + 1, h, hm, hh, y, z, hyz => by
    rcases Nat.lt_or_ge h 2 with h2 | h2
    · rw [D_const h2, D_const h2]
    · obtain ⟨d, hd⟩ := hh.node h2
      have hl := hw.lv hd
      rw [lev_node h2 hd] at hm hyz
      have a := hw.llo hd
      have b := hw.lhi hd
      rw [D_node hw hd, D_node hw hd, hyz d.lv (Nat.le_refl _) hl]
      rw [D_dep hw m d.hi (by omega) (hw.hi hd) y z (fun l hl1 hl2 => hyz l (by omega) hl2),
        D_dep hw m d.lo (by omega) (hw.lo hd) y z (fun l hl1 hl2 => hyz l (by omega) hl2)]

theorem D_congr {n : Nat} {T : Tab} (hw : Wf n T) {h : Nat} (hh : IsNd T h) {y z : Nat → Bool} (hyz : ∀ l, lev n T h ≤ l → l < n → y l = z l) : D n T h y = D n T h z :=
  D_dep hw n h (by omega) hh y z hyz

def upd (y : Nat → Bool) (l : Nat) (b : Bool) : Nat → Bool := fun k => if k = l then b else y k
theorem upd_same (y : Nat → Bool) (l : Nat) (b : Bool) : upd y l b l = b := by simp [upd]
theorem upd_other (y : Nat → Bool) {l k : Nat} (b : Bool) (h : k ≠ l) : upd y l b k = y k := by simp [upd, h]
theorem upd_self (y : Nat → Bool) (l : Nat) : upd y l (y l) = y := by funext k; by_cases h : k = l <;> simp [upd, h]

theorem D_upd_above {n : Nat} {T : Tab} (hw : Wf n T) {h l : Nat} (hh : IsNd T h) (hl : l < lev n T h) (y : Nat → Bool) (b : Bool) : D n T h (upd y l b) = D n T h y :=
  D_congr hw hh fun k hk _ => upd_other y b (by omega)

theorem D_node_lo {n : Nat} {T : Tab} (hw : Wf n T) {h : Nat} {d : Nd} (hd : T h = some d) (y : Nat → Bool) : D n T h (upd y d.lv false) = D n T d.lo y := by
  rw [D_node hw hd, upd_same]; simp only [Bool.false_eq_true, if_false]; exact D_upd_above hw (hw.lo hd) (hw.llo hd) y false
theorem D_node_hi {n : Nat} {T : Tab} (hw : Wf n T) {h : Nat} {d : Nd} (hd : T h = some d) (y : Nat → Bool) : D n T h (upd y d.lv true) = D n T d.hi y := by
  rw [D_node hw hd, upd_same]; simp only [if_true]; exact D_upd_above hw (hw.hi hd) (hw.lhi hd) y true

/-- Two handles of one function are one. -/
theorem canon {n : Nat} {T : Tab} (hw : Wf n T) : ∀ (m h k : Nat), n ≤ lev n T h + m → n ≤ lev n T k + m → IsNd T h → IsNd T k → (∀ y, D n T h y = D n T k y) → h = k
  | 0, h, k, hm, km, hh, hk, e => by
    have small : ∀ j, n ≤ lev n T j + 0 → IsNd T j → j < 2 := fun j jm jj => by
      rcases Nat.lt_or_ge j 2 with h2 | h2
      · exact h2
      · obtain ⟨d, hd⟩ := jj.node h2
        have := hw.lv hd; rw [lev_node h2 hd] at jm; omega
    have a := small h hm hh
    have b := small k km hk
    have := e (fun _ => false)
    rw [D_const a, D_const b] at this
    match h, k, a, b with
    | 0, 0, _, _ => rfl
    | 1, 1, _, _ => rfl
    | 0, 1, _, _ => simp at this
    | 1, 0, _, _ => simp at this
    | h + 2, _, a, _ => omega
    | _, k + 2, _, b => omega
  | m + 1, h, k, hm, km, hh, hk, e => by
    -- a node whose children's functions are one cannot be
    have split1 : ∀ j d, T j = some d → n ≤ d.lv + (m + 1) → (∀ y, D n T d.lo y = D n T d.hi y) → False := fun j d hd hdm hy => by
      have a := hw.llo hd
      have b := hw.lhi hd
      exact hw.ne hd (canon hw m d.lo d.hi (by omega) (by omega) (hw.lo hd) (hw.hi hd) hy)
    rcases Nat.lt_or_ge h 2 with h2 | h2
    · rcases Nat.lt_or_ge k 2 with k2 | k2
      · have := e (fun _ => false)
        rw [D_const h2, D_const k2] at this
        match h, k, h2, k2 with
        | 0, 0, _, _ => rfl
        | 1, 1, _, _ => rfl
        | 0, 1, _, _ => simp at this
        | 1, 0, _, _ => simp at this
        | h + 2, _, a, _ => omega
        | _, k + 2, _, b => omega
      · obtain ⟨d, hd⟩ := hk.node k2
        rw [lev_node k2 hd] at km
        refine (split1 k d hd km fun y => ?_).elim
        rw [← D_node_lo hw hd y, ← D_node_hi hw hd y, ← e, ← e, D_const h2, D_const h2]
    · obtain ⟨d, hd⟩ := hh.node h2
      rw [lev_node h2 hd] at hm
      rcases Nat.lt_or_ge k 2 with k2 | k2
      · refine (split1 h d hd hm fun y => ?_).elim
        rw [← D_node_lo hw hd y, ← D_node_hi hw hd y, e, e, D_const k2, D_const k2]
      · obtain ⟨g, hg⟩ := hk.node k2
        rw [lev_node k2 hg] at km
        rcases Nat.lt_trichotomy d.lv g.lv with hl | hl | hl
        · refine (split1 h d hd hm fun y => ?_).elim
          rw [← D_node_lo hw hd y, ← D_node_hi hw hd y, e, e, D_upd_above hw hk (by rw [lev_node k2 hg]; exact hl), D_upd_above hw hk (by rw [lev_node k2 hg]; exact hl)]
        · have a := hw.llo hd
          have b := hw.lhi hd
          have a' := hw.llo hg
          have b' := hw.lhi hg
          have e1 : d.lo = g.lo := canon hw m _ _ (by omega) (by omega) (hw.lo hd) (hw.lo hg) fun y => by
            rw [← D_node_lo hw hd y, ← D_node_lo hw hg y, e, hl]
          have e2 : d.hi = g.hi := canon hw m _ _ (by omega) (by omega) (hw.hi hd) (hw.hi hg) fun y => by
            rw [← D_node_hi hw hd y, ← D_node_hi hw hg y, e, hl]
          have : d = g := by cases d; cases g; simp_all
          subst this
          exact hw.uniq hd hg
        · refine (split1 k g hg km fun y => ?_).elim
          rw [← D_node_lo hw hg y, ← D_node_hi hw hg y, ← e, ← e, D_upd_above hw hh (by rw [lev_node h2 hd]; exact hl), D_upd_above hw hh (by rw [lev_node h2 hd]; exact hl)]

theorem eq_of_D {n : Nat} {T : Tab} (hw : Wf n T) {h k : Nat} (hh : IsNd T h) (hk : IsNd T k) (e : ∀ y, D n T h y = D n T k y) : h = k :=
  canon hw n h k (by omega) (by omega) hh hk e

/-- A handle whose function does not hang on the levels above m lies at m or deeper. -/
theorem lev_ge {n : Nat} {T : Tab} (hw : Wf n T) {h m : Nat} (hh : IsNd T h) (hm : m ≤ n) (e : ∀ l, l < m → ∀ y b, D n T h (upd y l b) = D n T h y) : m ≤ lev n T h := by
  rcases Nat.lt_or_ge h 2 with h2 | h2
  · rw [lev_const h2]; exact hm
  · obtain ⟨d, hd⟩ := hh.node h2
    rw [lev_node h2 hd]
    rcases Nat.lt_or_ge d.lv m with hl | hl
    · exfalso
      refine hw.ne hd (eq_of_D hw (hw.lo hd) (hw.hi hd) fun y => ?_)
      rw [← D_node_lo hw hd y, ← D_node_hi hw hd y, e _ hl, e _ hl]
    · exact hl

/-- T' has all nodes of T. -/
def Sub (T T' : Tab) : Prop := ∀ h d, T h = some d → T' h = some d
theorem Sub.refl (T : Tab) : Sub T T := fun _ _ h => h
theorem Sub.trans {A B C : Tab} (h : Sub A B) (k : Sub B C) : Sub A C := fun x d hd => k x d (h x d hd)
theorem Sub.isNd {T T' : Tab} (s : Sub T T') {h : Nat} (hh : IsNd T h) : IsNd T' h := hh.imp id fun ⟨d, hd⟩ => ⟨d, s h d hd⟩
theorem Sub.lev {n : Nat} {T T' : Tab} (s : Sub T T') {h : Nat} (hh : IsNd T h) : lev n T' h = lev n T h := by
  rcases Nat.lt_or_ge h 2 with h2 | h2
  · rw [lev_const h2, lev_const h2]
  · obtain ⟨d, hd⟩ := hh.node h2
    rw [lev_node h2 hd, lev_node h2 (s h d hd)]
theorem Sub.den {n : Nat} {T T' : Tab} (s : Sub T T') (hw : Wf n T) (y : Nat → Bool) : ∀ (f h : Nat), IsNd T h → den T' f h y = den T f h y
  | 0, _, _ => rfl
  | f + 1, h, hh => by
    rcases Nat.lt_or_ge h 2 with h2 | h2
    · rw [den_const _ _ _ h2, den_const _ _ _ h2]
    · obtain ⟨d, hd⟩ := hh.node h2
      rw [den_succ y h2 hd, den_succ y h2 (s h d hd), s.den hw y f _ (hw.hi hd), s.den hw y f _ (hw.lo hd)]
theorem Sub.D {n : Nat} {T T' : Tab} (s : Sub T T') (hw : Wf n T) {h : Nat} (hh : IsNd T h) (y : Nat → Bool) : D n T' h y = D n T h y := s.den hw y n h hh

/-- A node more. -/
def add (T : Tab) (k : Nat) (d : Nd) : Tab := fun h => if h = k then some d else T h
theorem add_same (T : Tab) (k : Nat) (d : Nd) : add T k d k = some d := by simp [add]
theorem add_other (T : Tab) {k h : Nat} (d : Nd) (hh : h ≠ k) : add T k d h = T h := by simp [add, hh]
theorem Sub.add {T : Tab} {k : Nat} (d : Nd) (hk : T k = none) : Sub T (add T k d) := fun h x hx => by
  rw [add_other _ _ (fun e => by subst e; rw [hk] at hx; cases hx)]; exact hx

theorem Wf.add {n : Nat} {T : Tab} (hw : Wf n T) {k : Nat} {d : Nd} (hk : T k = none) (k2 : 2 ≤ k) (hl : d.lv < n) (hlo : IsNd T d.lo) (hhi : IsNd T d.hi) (llo : d.lv < lev n T d.lo) (lhi : d.lv < lev n T d.hi)
    (hne : d.lo ≠ d.hi) (hnew : ∀ h, T h ≠ some d) : Wf n (Bdd.add T k d) := by
  have s := Sub.add (T := T) (k := k) d hk
  have cases2 : ∀ {h x}, Bdd.add T k d h = some x → (h = k ∧ x = d) ∨ (h ≠ k ∧ T h = some x) := fun {h x} hx => by
    by_cases e : h = k
    · subst e; rw [add_same] at hx; exact .inl ⟨rfl, (Option.some.inj hx).symm⟩
    · rw [add_other _ _ e] at hx; exact .inr ⟨e, hx⟩
  refine ⟨?_, ?_, ?_, ?_, ?_, ?_, ?_, ?_⟩
  · intro h x hx; rcases cases2 hx with ⟨rfl, rfl⟩ | ⟨_, hx⟩
    · exact k2
    · exact hw.ge2 hx
  · intro h x hx; rcases cases2 hx with ⟨rfl, rfl⟩ | ⟨_, hx⟩
    · exact hl
    · exact hw.lv hx
  · intro h x hx; rcases cases2 hx with ⟨rfl, rfl⟩ | ⟨_, hx⟩
    · exact s.isNd hlo
    · exact s.isNd (hw.lo hx)
  · intro h x hx; rcases cases2 hx with ⟨rfl, rfl⟩ | ⟨_, hx⟩
    · exact s.isNd hhi
    · exact s.isNd (hw.hi hx)
  · intro h x hx; rcases cases2 hx with ⟨rfl, rfl⟩ | ⟨_, hx⟩
    · rw [s.lev hlo]; exact llo
    · rw [s.lev (hw.lo hx)]; exact hw.llo hx
  · intro h x hx; rcases cases2 hx with ⟨rfl, rfl⟩ | ⟨_, hx⟩
    · rw [s.lev hhi]; exact lhi
    · rw [s.lev (hw.hi hx)]; exact hw.lhi hx
  · intro h x hx; rcases cases2 hx with ⟨rfl, rfl⟩ | ⟨_, hx⟩
    · exact hne
    · exact hw.ne hx
  · intro h j x hx hj
    rcases cases2 hx with ⟨h1, h2⟩ | ⟨_, hx1⟩
    · rcases cases2 hj with ⟨j1, _⟩ | ⟨_, hj1⟩
      · rw [h1, j1]
      · exact (hnew _ (h2 ▸ hj1)).elim
    · rcases cases2 hj with ⟨_, j2⟩ | ⟨_, hj1⟩
      · exact (hnew _ (j2 ▸ hx1)).elim
      · exact hw.uniq hx1 hj1

theorem Wf.none (n : Nat) : Wf n (fun _ => none) := by
  refine ⟨?_, ?_, ?_, ?_, ?_, ?_, ?_, ?_⟩
  all_goals (intros; contradiction)

end Go.Proofs.YtiojnjihbidbiaaGreat.Bdd
/- How many nodes there are: at most 256 of the levels from 5 on, among at most eight levels. No Go, no program. -/
namespace Go.Proofs.YtiojnjihbidbiaaGreat.Bdd

/-- Different numbers below m: at most m. -/
theorem nodup_lt : ∀ (m : Nat) (l : List Nat), l.Nodup → (∀ x ∈ l, x < m) → l.length ≤ m
  | 0, l, _, h => by
    cases l with
    | nil => exact Nat.le_refl _
    | cons a l => exact absurd (h a (by simp)) (by omega)
  | m + 1, l, hn, h => by
    have hf : (l.filter fun x => x != m).length ≤ m := nodup_lt m _ (hn.filter _) fun x hx => by
      simp only [List.mem_filter, bne_iff_ne, ne_eq] at hx
      have := h x hx.1; omega
    have hc : l.length = (l.filter fun x => x != m).length + (l.filter fun x => !(x != m)).length := by
      have := List.length_eq_countP_add_countP (p := fun x => x != m) (l := l)
      simp only [List.countP_eq_length_filter] at this
      rw [this]
      congr 2
      refine List.filter_congr fun x _ => ?_
      by_cases e : x = m <;> simp [e]
    have h1 : (l.filter fun x => !(x != m)).length ≤ 1 := by
      have hn2 : (l.filter fun x => !(x != m)).Nodup := hn.filter _
      have hall : ∀ x ∈ (l.filter fun x => !(x != m)), x = m := fun x hx => by
        simp only [List.mem_filter] at hx
        have := hx.2; simpa using this
      generalize (l.filter fun x => !(x != m)) = k at hn2 hall
      match k, hn2, hall with
      | [], _, _ => simp
      | [_], _, _ => simp
      | a :: b :: r, hn2, hall =>
        have ha := hall a (by simp)
        have hb := hall b (by simp)
        subst ha; subst hb
        simp at hn2
    omega

def b2n (b : Bool) : Nat := if b then 1 else 0
theorem b2n_inj {a b : Bool} (h : b2n a = b2n b) : a = b := by cases a <;> cases b <;> simp [b2n] at h <;> rfl
theorem b2n_le (a : Bool) : b2n a ≤ 1 := by cases a <;> simp [b2n]

def code8 (g : Nat → Bool) : Nat := b2n (g 0) + 2 * b2n (g 1) + 4 * b2n (g 2) + 8 * b2n (g 3) + 16 * b2n (g 4) + 32 * b2n (g 5) + 64 * b2n (g 6) + 128 * b2n (g 7)
theorem code8_lt (g : Nat → Bool) : code8 g < 256 := by
  have h0 := b2n_le (g 0); have h1 := b2n_le (g 1); have h2 := b2n_le (g 2); have h3 := b2n_le (g 3)
  have h4 := b2n_le (g 4); have h5 := b2n_le (g 5); have h6 := b2n_le (g 6); have h7 := b2n_le (g 7)
  unfold code8; omega
theorem code8_inj {g f : Nat → Bool} (h : code8 g = code8 f) : ∀ j, j < 8 → g j = f j := by
  have h0 := b2n_le (g 0); have h1 := b2n_le (g 1); have h2 := b2n_le (g 2); have h3 := b2n_le (g 3)
  have h4 := b2n_le (g 4); have h5 := b2n_le (g 5); have h6 := b2n_le (g 6); have h7 := b2n_le (g 7)
  have k0 := b2n_le (f 0); have k1 := b2n_le (f 1); have k2 := b2n_le (f 2); have k3 := b2n_le (f 3)
  have k4 := b2n_le (f 4); have k5 := b2n_le (f 5); have k6 := b2n_le (f 6); have k7 := b2n_le (f 7)
  unfold code8 at h
  have e0 : b2n (g 0) = b2n (f 0) := by omega
  have e1 : b2n (g 1) = b2n (f 1) := by omega
  have e2 : b2n (g 2) = b2n (f 2) := by omega
  have e3 : b2n (g 3) = b2n (f 3) := by omega
  have e4 : b2n (g 4) = b2n (f 4) := by omega
  have e5 : b2n (g 5) = b2n (f 5) := by omega
  have e6 : b2n (g 6) = b2n (f 6) := by omega
  have e7 : b2n (g 7) = b2n (f 7) := by omega
  intro j hj
  match j, hj with
  | 0, _ => exact b2n_inj e0
  | 1, _ => exact b2n_inj e1
  | 2, _ => exact b2n_inj e2
  | 3, _ => exact b2n_inj e3
  | 4, _ => exact b2n_inj e4
  | 5, _ => exact b2n_inj e5
  | 6, _ => exact b2n_inj e6
  | 7, _ => exact b2n_inj e7
  | j + 8, hj => omega

/-- Of the three deepest levels: the values by a number below 8. -/
def three (j : Nat) : Nat → Bool := fun l => (j / 2 ^ (l - 5)) % 2 == 1

theorem three_of (y : Nat → Bool) : ∃ j, j < 8 ∧ ∀ l, 5 ≤ l → l < 8 → y l = three j l := by
  refine ⟨b2n (y 5) + 2 * b2n (y 6) + 4 * b2n (y 7), ?_, ?_⟩
  · have := b2n_le (y 5); have := b2n_le (y 6); have := b2n_le (y 7); omega
  · intro l h5 h8
    have : l = 5 ∨ l = 6 ∨ l = 7 := by omega
    rcases this with rfl | rfl | rfl
    all_goals (cases y 5 <;> cases y 6 <;> cases y 7 <;> decide)

/-- The table of a list of nodes: handle h is the node at h - 2. -/
def tab (L : List Nd) : Tab := fun h => if h < 2 then none else L[h - 2]?
theorem tab_two (L : List Nd) (i : Nat) : tab L (i + 2) = L[i]? := by unfold tab; rw [if_neg (by omega)]; rfl
theorem tab_some {L : List Nd} {h : Nat} {d : Nd} (hd : tab L h = some d) : 2 ≤ h ∧ L[h - 2]? = some d := by
  unfold tab at hd
  split at hd
  · cases hd
  · exact ⟨by omega, hd⟩
theorem tab_lt {L : List Nd} {h : Nat} {d : Nd} (hd : tab L h = some d) : h < L.length + 2 := by
  have ⟨h2, hd⟩ := tab_some hd
  have := (List.getElem?_eq_some_iff.1 hd).1
  omega
theorem isNd_tab {L : List Nd} {h : Nat} : IsNd (tab L) h ↔ h < L.length + 2 := by
  constructor
  · rintro (hh | ⟨d, hd⟩)
    · omega
    · exact tab_lt hd
  · intro hh
    rcases Nat.lt_or_ge h 2 with h2 | h2
    · exact .inl h2
    · exact .inr ⟨L[h - 2]'(by omega), by unfold tab; rw [if_neg (by omega), List.getElem?_eq_getElem]⟩
theorem tab_push (L : List Nd) (d : Nd) : tab (L ++ [d]) = add (tab L) (L.length + 2) d := by
  funext h
  show (if h < 2 then none else (L ++ [d])[h - 2]?) = if h = L.length + 2 then some d else if h < 2 then none else L[h - 2]?
  by_cases h2 : h < 2
  · rw [if_pos h2, if_neg (by omega), if_pos h2]
  · rw [if_neg h2]
    by_cases e : h = L.length + 2
    · subst e; simp
    · rw [if_neg e, if_neg h2]
      by_cases hl : h - 2 < L.length
      · rw [List.getElem?_append_left hl]
      · rw [List.getElem?_eq_none (by simp; omega), List.getElem?_eq_none (by omega)]
theorem tab_fresh (L : List Nd) : tab L (L.length + 2) = none := by rw [tab_two]; simp

/-- How many nodes lie above level 5. -/
def high (L : List Nd) : Nat := L.countP fun d => d.lv < 5
theorem high_push (L : List Nd) (d : Nd) : high (L ++ [d]) = high L + if d.lv < 5 then 1 else 0 := by
  unfold high; rw [List.countP_append]; simp [List.countP_cons]

theorem countP_range (p : Nd → Bool) (M : List Nd) : ((List.range M.length).filter fun i => match M[i]? with | some d => p d | none => false).length = M.countP p := by
  rw [← List.countP_eq_length_filter]
  have e : (List.range M.length).map (fun i => M[i]?) = M.map some := by
    apply List.ext_getElem?
    intro i
    simp only [List.getElem?_map]
    by_cases hi : i < M.length
    · rw [List.getElem?_range hi, List.getElem?_eq_getElem hi]; simp [List.getElem?_eq_getElem hi]
    · rw [List.getElem?_eq_none (by simpa using hi), List.getElem?_eq_none (by omega)]; rfl
  have := congrArg (List.countP fun o => match o with | some d => p d | none => false) e
  rw [List.countP_map, List.countP_map] at this
  exact this

theorem deep_le {n : Nat} {L : List Nd} (hw : Wf n (tab L)) (hn : n ≤ 8) : L.countP (fun d => !(decide (d.lv < 5))) ≤ 256 := by
  rw [← countP_range]
  have hidx : ((List.range L.length).filter fun i => match L[i]? with | some d => !(decide (d.lv < 5)) | none => false).Nodup := List.nodup_range.filter _
  have hmem : ∀ i, i ∈ ((List.range L.length).filter fun i => match L[i]? with | some d => !(decide (d.lv < 5)) | none => false) → ∃ d, tab L (i + 2) = some d ∧ 5 ≤ d.lv := by
    intro i hi
    simp only [List.mem_filter, List.mem_range] at hi
    obtain ⟨hi, h5⟩ := hi
    rw [List.getElem?_eq_getElem hi] at h5
    refine ⟨L[i], by rw [tab_two, List.getElem?_eq_getElem hi], ?_⟩
    simpa using h5
  generalize ((List.range L.length).filter fun i => match L[i]? with | some d => !(decide (d.lv < 5)) | none => false) = idx at hidx hmem
  have hcode : (idx.map fun i => code8 fun j => D n (tab L) (i + 2) (three j)).Nodup := by
    unfold List.Nodup
    rw [List.pairwise_map]
    refine List.Pairwise.imp_of_mem ?_ hidx
    intro a b ha hb hab hc
    obtain ⟨da, hda, la⟩ := hmem a ha
    obtain ⟨db, hdb, lb⟩ := hmem b hb
    apply hab
    have := eq_of_D hw (.inr ⟨da, hda⟩) (.inr ⟨db, hdb⟩) fun y => by
      obtain ⟨j, hj, hy⟩ := three_of y
      have ea : D n (tab L) (a + 2) y = D n (tab L) (a + 2) (three j) := D_congr hw (.inr ⟨da, hda⟩) fun l h1 h2 => by
        rw [lev_node (by omega) hda] at h1; exact hy l (by omega) (by omega)
      have eb : D n (tab L) (b + 2) y = D n (tab L) (b + 2) (three j) := D_congr hw (.inr ⟨db, hdb⟩) fun l h1 h2 => by
        rw [lev_node (by omega) hdb] at h1; exact hy l (by omega) (by omega)
      rw [ea, eb]
      exact code8_inj hc j hj
    omega
  have := nodup_lt 256 _ hcode fun x hx => by
    simp only [List.mem_map] at hx
    obtain ⟨i, _, rfl⟩ := hx
    exact code8_lt _
  simpa using this

/-- All nodes: those above level 5, and no more than 256. -/
theorem length_le {n : Nat} {L : List Nd} (hw : Wf n (tab L)) (hn : n ≤ 8) : L.length ≤ high L + 256 := by
  have h1 := deep_le hw hn
  have h2 := List.length_eq_countP_add_countP (p := fun d : Nd => decide (d.lv < 5)) (l := L)
  have e : L.countP (fun a => decide ¬((fun d : Nd => decide (d.lv < 5)) a) = true) = L.countP (fun d => !(decide (d.lv < 5))) := by
    congr 1; funext d; by_cases h : d.lv < 5 <;> simp [h]
  rw [e] at h2
  unfold high
  omega

theorem low3_of (y : Nat → Bool) : ∃ j, j < 8 ∧ ∀ l, l < 3 → y l = three j (l + 5) := by
  obtain ⟨j, hj, h⟩ := three_of (fun l => y (l - 5))
  exact ⟨j, hj, fun l hl => by have := h (l + 5) (by omega) (by omega); simpa using this⟩

/-- Over three variables at most there are at most 256 nodes. -/
theorem small_le {n : Nat} {L : List Nd} (hw : Wf n (tab L)) (hn : n ≤ 3) : L.length ≤ 256 := by
  have hcode : ((List.range L.length).map fun i => code8 fun j => D n (tab L) (i + 2) (fun l => three j (l + 5))).Nodup := by
    unfold List.Nodup
    rw [List.pairwise_map]
    refine List.Pairwise.imp_of_mem ?_ List.nodup_range
    intro a b ha hb hab hc
    rw [List.mem_range] at ha hb
    apply hab
    have na : IsNd (tab L) (a + 2) := isNd_tab.2 (by omega)
    have nb : IsNd (tab L) (b + 2) := isNd_tab.2 (by omega)
    have := eq_of_D hw na nb fun y => by
      obtain ⟨j, hj, hy⟩ := low3_of y
      rw [D_congr hw na (z := fun l => three j (l + 5)) fun l _ h2 => hy l (by omega), D_congr hw nb (z := fun l => three j (l + 5)) fun l _ h2 => hy l (by omega)]
      exact code8_inj hc j hj
    omega
  have := nodup_lt 256 _ hcode fun x hx => by
    simp only [List.mem_map] at hx
    obtain ⟨i, _, rfl⟩ := hx
    exact code8_lt _
  simpa using this

end Go.Proofs.YtiojnjihbidbiaaGreat.Bdd
/- What not, and, or, xor, if-then-else do with diagrams: where they end at once, how a level's halves join, how many nodes they may lay. No Go, no program. -/
namespace Go.Proofs.YtiojnjihbidbiaaGreat.Bdd

/-- Two tables of nodes, the second with more; at most c more above level 5. -/
structure Gr (n : Nat) (L L' : List Nd) (c : Nat) : Prop where
  ex : ∃ M, L' = L ++ M
  wf : Wf n (tab L')
  hi : high L' ≤ high L + c

theorem Gr.refl {n : Nat} {L : List Nd} (hw : Wf n (tab L)) : Gr n L L 0 := ⟨⟨[], by simp⟩, hw, Nat.le_refl _⟩
theorem Gr.trans {n c c' : Nat} {A B C : List Nd} (h : Gr n A B c) (k : Gr n B C c') : Gr n A C (c + c') := by
  obtain ⟨M, rfl⟩ := h.ex
  obtain ⟨N, rfl⟩ := k.ex
  exact ⟨⟨M ++ N, by simp⟩, k.wf, by have := h.hi; have := k.hi; omega⟩
theorem Gr.mono {n c c' : Nat} {A B : List Nd} (h : Gr n A B c) (hc : c ≤ c') : Gr n A B c' := ⟨h.ex, h.wf, by have := h.hi; omega⟩
theorem Gr.sub {n c : Nat} {A B : List Nd} (h : Gr n A B c) : Sub (tab A) (tab B) := by
  obtain ⟨M, rfl⟩ := h.ex
  intro k d hd
  have ⟨h2, hd'⟩ := tab_some hd
  unfold tab; rw [if_neg (by omega)]
  rw [List.getElem?_append_left (List.getElem?_eq_some_iff.1 hd').1]; exact hd'
theorem Gr.len {n c : Nat} {A B : List Nd} (h : Gr n A B c) : A.length ≤ B.length := by obtain ⟨M, rfl⟩ := h.ex; simp
theorem Gr.isNd {n c : Nat} {A B : List Nd} (g : Gr n A B c) {h : Nat} (hh : IsNd (tab A) h) : IsNd (tab B) h := g.sub.isNd hh
theorem Gr.lev {n c : Nat} {A B : List Nd} (g : Gr n A B c) {h : Nat} (hh : IsNd (tab A) h) : lev n (tab B) h = lev n (tab A) h := g.sub.lev hh
theorem Gr.D {n c : Nat} {A B : List Nd} (g : Gr n A B c) (hw : Wf n (tab A)) {h : Nat} (hh : IsNd (tab A) h) (y : Nat → Bool) : D n (tab B) h y = D n (tab A) h y := g.sub.D hw hh y

/-- A new node at the table's end. -/
theorem Gr.push {n : Nat} {L : List Nd} (hw : Wf n (tab L)) {d : Nd} (hl : d.lv < n) (hlo : IsNd (tab L) d.lo) (hhi : IsNd (tab L) d.hi) (llo : d.lv < Bdd.lev n (tab L) d.lo) (lhi : d.lv < Bdd.lev n (tab L) d.hi)
    (hne : d.lo ≠ d.hi) (hnew : ∀ h, tab L h ≠ some d) : Gr n L (L ++ [d]) (if d.lv < 5 then 1 else 0) :=
  ⟨⟨[d], rfl⟩, by rw [tab_push]; exact hw.add (tab_fresh L) (by omega) hl hlo hhi llo lhi hne hnew, by rw [high_push]; exact Nat.le_refl _⟩

/-- A node's child on the low side where it lies on level l, else itself. -/
def chLo (n : Nat) (T : Tab) (h l : Nat) : Nat := if lev n T h = l then (match T h with | some d => d.lo | none => h) else h
def chHi (n : Nat) (T : Tab) (h l : Nat) : Nat := if lev n T h = l then (match T h with | some d => d.hi | none => h) else h

theorem chLo_spec {n : Nat} {T : Tab} (hw : Wf n T) {h l : Nat} (hh : IsNd T h) (hl : l ≤ lev n T h) (ln : l < n) :
    IsNd T (chLo n T h l) ∧ l < lev n T (chLo n T h l) ∧ ∀ y, D n T (chLo n T h l) y = D n T h (upd y l false) := by
  unfold chLo
  by_cases e : lev n T h = l
  · rw [if_pos e]
    obtain ⟨h2, d, hd, hdl⟩ := lev_lt_node (n := n) hh (by omega)
    rw [hd]
    have : d.lv = l := by omega
    subst this
    exact ⟨hw.lo hd, hw.llo hd, fun y => (D_node_lo hw hd y).symm⟩
  · rw [if_neg e]
    exact ⟨hh, by omega, fun y => (D_upd_above hw hh (by omega) y false).symm⟩
theorem chHi_spec {n : Nat} {T : Tab} (hw : Wf n T) {h l : Nat} (hh : IsNd T h) (hl : l ≤ lev n T h) (ln : l < n) :
    IsNd T (chHi n T h l) ∧ l < lev n T (chHi n T h l) ∧ ∀ y, D n T (chHi n T h l) y = D n T h (upd y l true) := by
  unfold chHi
  by_cases e : lev n T h = l
  · rw [if_pos e]
    obtain ⟨h2, d, hd, hdl⟩ := lev_lt_node (n := n) hh (by omega)
    rw [hd]
    have : d.lv = l := by omega
    subst this
    exact ⟨hw.hi hd, hw.lhi hd, fun y => (D_node_hi hw hd y).symm⟩
  · rw [if_neg e]
    exact ⟨hh, by omega, fun y => (D_upd_above hw hh (by omega) y true).symm⟩

/-- The operations by their numbers: 2 and, 3 or, 4 xor, 5 if-then-else. -/
def opf (op : Nat) (a b c : Bool) : Bool :=
  if op = 2 then a && b else if op = 3 then a || b else if op = 4 then a ^^ b else if a then b else c

/-- h is what op makes of a, b, c. -/
def Is (n : Nat) (T : Tab) (op a b c h : Nat) : Prop := IsNd T h ∧ ∀ y, D n T h y = opf op (D n T a y) (D n T b y) (D n T c y)

def andEnds (a b : Nat) : Nat × Bool := if a = 0 ∨ b = 0 then (0, true) else if a = 1 ∨ a = b then (b, true) else if b = 1 then (a, true) else (0, false)
def orEnds (a b : Nat) : Nat × Bool := if a = 1 ∨ b = 1 then (1, true) else if a = 0 ∨ a = b then (b, true) else if b = 0 then (a, true) else (0, false)
def xorEnds (a b : Nat) : Nat × Bool := if a = b then (0, true) else if a = 0 then (b, true) else if b = 0 then (a, true) else (1, decide (a ≤ 1 ∧ b ≤ 1))
def iteEnds (a b c : Nat) : Nat × Bool := if a = 1 ∨ b = c then (b, true) else if a = 0 then (c, true) else (a, decide (b = 1 ∧ c = 0))
def ends (op a b c : Nat) : Nat × Bool :=
  if op = 2 then andEnds a b else if op = 3 then orEnds a b else if op = 4 then xorEnds a b else iteEnds a b c

theorem ends_is {n : Nat} {T : Tab} {op a b c : Nat} (ho : op = 2 ∨ op = 3 ∨ op = 4 ∨ op = 5) (ha : IsNd T a) (hb : IsNd T b) (hc : IsNd T c) (h : (ends op a b c).2 = true) : Is n T op a b c (ends op a b c).1 := by
  rcases ho with rfl | rfl | rfl | rfl
  · simp only [ends, if_true] at h ⊢
    unfold andEnds at h ⊢
    by_cases h1 : a = 0 ∨ b = 0
    · rw [if_pos h1]; refine ⟨IsNd.zero _, fun y => ?_⟩
      rcases h1 with rfl | rfl <;> simp [opf, D_zero]
    · rw [if_neg h1] at h ⊢
      by_cases h2 : a = 1 ∨ a = b
      · rw [if_pos h2]; refine ⟨hb, fun y => ?_⟩
        rcases h2 with rfl | rfl <;> simp [opf, D_one]
      · rw [if_neg h2] at h ⊢
        by_cases h3 : b = 1
        · rw [if_pos h3]; subst h3; exact ⟨ha, fun y => by simp [opf, D_one]⟩
        · rw [if_neg h3] at h; cases h
  · simp only [ends, Nat.reduceEqDiff, if_false, if_true] at h ⊢
    unfold orEnds at h ⊢
    by_cases h1 : a = 1 ∨ b = 1
    · rw [if_pos h1]; refine ⟨IsNd.one _, fun y => ?_⟩
      rcases h1 with rfl | rfl <;> simp [opf, D_one]
    · rw [if_neg h1] at h ⊢
      by_cases h2 : a = 0 ∨ a = b
      · rw [if_pos h2]; refine ⟨hb, fun y => ?_⟩
        rcases h2 with rfl | rfl <;> simp [opf, D_zero]
      · rw [if_neg h2] at h ⊢
        by_cases h3 : b = 0
        · rw [if_pos h3]; subst h3; exact ⟨ha, fun y => by simp [opf, D_zero]⟩
        · rw [if_neg h3] at h; cases h
  · simp only [ends, Nat.reduceEqDiff, if_false, if_true] at h ⊢
    unfold xorEnds at h ⊢
    by_cases h1 : a = b
    · rw [if_pos h1]; subst h1; exact ⟨IsNd.zero _, fun y => by simp [opf, D_zero]⟩
    · rw [if_neg h1] at h ⊢
      by_cases h2 : a = 0
      · rw [if_pos h2]; subst h2; exact ⟨hb, fun y => by simp [opf, D_zero]⟩
      · rw [if_neg h2] at h ⊢
        by_cases h3 : b = 0
        · rw [if_pos h3]; subst h3; exact ⟨ha, fun y => by simp [opf, D_zero]⟩
        · rw [if_neg h3] at h; simp at h; omega
  · simp only [ends, Nat.reduceEqDiff, if_false] at h ⊢
    unfold iteEnds at h ⊢
    by_cases h1 : a = 1 ∨ b = c
    · rw [if_pos h1]; refine ⟨hb, fun y => ?_⟩
      rcases h1 with rfl | rfl <;> simp [opf, D_one]
    · rw [if_neg h1] at h ⊢
      by_cases h2 : a = 0
      · rw [if_pos h2]; subst h2; exact ⟨hc, fun y => by simp [opf, D_zero]⟩
      · rw [if_neg h2] at h ⊢
        simp at h
        obtain ⟨rfl, rfl⟩ := h
        exact ⟨ha, fun y => by simp [opf, D_zero, D_one]⟩

/-- Where it does not end at once one of the arguments is no constant. -/
theorem ends_not {n : Nat} {T : Tab} (hw : Wf n T) {op a b c : Nat} (ho : op = 2 ∨ op = 3 ∨ op = 4 ∨ op = 5) (ha : IsNd T a) (hb : IsNd T b) (h : (ends op a b c).2 = false) :
    min (min (lev n T a) (lev n T b)) (lev n T c) < n := by
  have key : 2 ≤ a ∨ 2 ≤ b := by
    rcases ho with rfl | rfl | rfl | rfl
    · simp only [ends, if_true] at h
      unfold andEnds at h
      by_cases h1 : a = 0 ∨ b = 0
      · rw [if_pos h1] at h; cases h
      · rw [if_neg h1] at h
        by_cases h2 : a = 1 ∨ a = b
        · rw [if_pos h2] at h; cases h
        · omega
    · simp only [ends, Nat.reduceEqDiff, if_false, if_true] at h
      unfold orEnds at h
      by_cases h1 : a = 1 ∨ b = 1
      · rw [if_pos h1] at h; cases h
      · rw [if_neg h1] at h
        by_cases h2 : a = 0 ∨ a = b
        · rw [if_pos h2] at h; cases h
        · omega
    · simp only [ends, Nat.reduceEqDiff, if_false, if_true] at h
      unfold xorEnds at h
      by_cases h1 : a = b
      · rw [if_pos h1] at h; cases h
      · rw [if_neg h1] at h
        by_cases h2 : a = 0
        · rw [if_pos h2] at h; cases h
        · rw [if_neg h2] at h
          by_cases h3 : b = 0
          · rw [if_pos h3] at h; cases h
          · rw [if_neg h3] at h; simp at h; omega
    · simp only [ends, Nat.reduceEqDiff, if_false] at h
      unfold iteEnds at h
      by_cases h1 : a = 1 ∨ b = c
      · rw [if_pos h1] at h; cases h
      · rw [if_neg h1] at h
        by_cases h2 : a = 0
        · rw [if_pos h2] at h; cases h
        · omega
  have lv : ∀ j, 2 ≤ j → IsNd T j → lev n T j < n := fun j j2 jj => by
    obtain ⟨d, hd⟩ := jj.node j2
    rw [lev_node j2 hd]; exact hw.lv hd
  rcases key with k | k
  · have := lv a k ha; omega
  · have := lv b k hb; omega

theorem opf_upd (op : Nat) (f g k : (Nat → Bool) → Bool) (y : Nat → Bool) (l : Nat) :
    (if y l then opf op (f (upd y l true)) (g (upd y l true)) (k (upd y l true)) else opf op (f (upd y l false)) (g (upd y l false)) (k (upd y l false))) = opf op (f y) (g y) (k y) := by
  cases h : y l
  · simp only [Bool.false_eq_true, if_false]; rw [← h, upd_self]
  · simp only [if_true]; rw [← h, upd_self]

/-- The halves joined. -/
theorem join_is {n c1 c2 c3 : Nat} {L L1 L2 L3 : List Nd} (hw : Wf n (tab L)) (g1 : Gr n L L1 c1) (g2 : Gr n L1 L2 c2) (g3 : Gr n L2 L3 c3) {op a b c l x y h : Nat}
    (ha : IsNd (tab L) a) (hb : IsNd (tab L) b) (hc : IsNd (tab L) c) (ln : l < n) (la : l ≤ lev n (tab L) a) (lb : l ≤ lev n (tab L) b) (lc : l ≤ lev n (tab L) c)
    (hx : Is n (tab L1) op (chLo n (tab L) a l) (chLo n (tab L) b l) (chLo n (tab L) c l) x)
    (hy : Is n (tab L2) op (chHi n (tab L) a l) (chHi n (tab L) b l) (chHi n (tab L) c l) y)
    (hh : IsNd (tab L3) h) (hd : ∀ z, D n (tab L3) h z = if z l then D n (tab L2) y z else D n (tab L2) x z) : Is n (tab L3) op a b c h := by
  refine ⟨hh, fun z => ?_⟩
  have ⟨xa, _, xa2⟩ := chLo_spec hw ha la ln
  have ⟨xb, _, xb2⟩ := chLo_spec hw hb lb ln
  have ⟨xc, _, xc2⟩ := chLo_spec hw hc lc ln
  have ⟨ya, _, ya2⟩ := chHi_spec hw ha la ln
  have ⟨yb, _, yb2⟩ := chHi_spec hw hb lb ln
  have ⟨yc, _, yc2⟩ := chHi_spec hw hc lc ln
  have g12 := g1.trans g2
  have g13 := g12.trans g3
  rw [hd, hy.2, g2.D g1.wf hx.1, hx.2, g13.D hw ha, g13.D hw hb, g13.D hw hc]
  rw [g12.D hw ya, g12.D hw yb, g12.D hw yc, g1.D hw xa, g1.D hw xb, g1.D hw xc, xa2, xb2, xc2, ya2, yb2, yc2]
  exact opf_upd op (D n (tab L) a) (D n (tab L) b) (D n (tab L) c) z l

/-- How many nodes above level 5 an operation may lay from level l on. -/
def cb (l : Nat) : Nat := 2 ^ (5 - l) - 1
theorem cb_deep {l : Nat} (h : 5 ≤ l) : cb l = 0 := by unfold cb; rw [show 5 - l = 0 by omega]
theorem cb_two {l l1 l2 : Nat} (h1 : l < l1) (h2 : l < l2) : cb l1 + cb l2 + (if l < 5 then 1 else 0) ≤ cb l := by
  have anti : ∀ a b, a ≤ b → cb b ≤ cb a := fun a b h => by
    unfold cb
    have := Nat.pow_le_pow_right (n := 2) (by omega) (show 5 - b ≤ 5 - a by omega)
    omega
  have a1 := anti (l + 1) l1 (by omega)
  have a2 := anti (l + 1) l2 (by omega)
  by_cases h : l < 5
  · rw [if_pos h]
    have : cb l = 2 * cb (l + 1) + 1 := by
      unfold cb
      rw [show 5 - l = (5 - (l + 1)) + 1 by omega, Nat.pow_succ]
      have := Nat.pow_pos (n := 5 - (l + 1)) (show 0 < 2 by omega)
      omega
    omega
  · rw [if_neg h, cb_deep (l := l + 1) (by omega)] at *
    omega
theorem cb_le (l : Nat) : cb l ≤ 31 := by
  unfold cb
  have := Nat.pow_le_pow_right (n := 2) (by omega) (show 5 - l ≤ 5 by omega)
  omega

end Go.Proofs.YtiojnjihbidbiaaGreat.Bdd
/- The hash table with linear probing, and the lossy cache, over plain lists of numbers. No Go, no program. -/
namespace Go.Proofs.YtiojnjihbidbiaaGreat.Bdd

theorem getD_set (K : List Nat) (s t v : Nat) (hs : s < K.length) : (K.set s v).getD t 0 = if t = s then v else K.getD t 0 := by
  simp only [List.getD_eq_getElem?_getD, List.getElem?_set]
  by_cases e : s = t
  · subst e; simp [hs]
  · rw [if_neg e, if_neg (fun h => e h.symm)]

theorem slot_lt {h j S : Nat} (hS : 0 < S) : (h + j) % S < S := Nat.mod_lt _ hS

/-- Some slot is reached from home that is empty, if not all are full. -/
theorem exists_zero {K : List Nat} (h : K.countP (fun x => x != 0) < K.length) : ∃ s, s < K.length ∧ K.getD s 0 = 0 := by
  induction K with
  | nil => simp at h
  | cons a K ih =>
    by_cases e : a = 0
    · exact ⟨0, by simp, by simp [e]⟩
    · rw [List.countP_cons_of_pos (by simpa using e)] at h
      obtain ⟨s, hs, hz⟩ := ih (by simpa using h)
      exact ⟨s + 1, by simpa using hs, by simpa using hz⟩

theorem least {p : Nat → Prop} [DecidablePred p] : ∀ (n : Nat), p n → ∃ m, m ≤ n ∧ p m ∧ ∀ k, k < m → ¬ p k
  | n, h => by
    by_cases e : ∃ k, k < n ∧ p k
    · obtain ⟨k, hk, pk⟩ := e
      obtain ⟨m, hm, pm, hl⟩ := least k pk
      exact ⟨m, by omega, pm, hl⟩
    · exact ⟨n, Nat.le_refl _, h, fun k hk pk => e ⟨k, hk, pk⟩⟩

theorem first_zero {K : List Nat} {home : Nat} (hh : home < K.length) (h : K.countP (fun x => x != 0) < K.length) :
    ∃ j, j < K.length ∧ K.getD ((home + j) % K.length) 0 = 0 ∧ ∀ i, i < j → K.getD ((home + i) % K.length) 0 ≠ 0 := by
  obtain ⟨s, hs, hz⟩ := exists_zero h
  have hj : ∃ j, j < K.length ∧ (home + j) % K.length = s := by
    by_cases e : home ≤ s
    · exact ⟨s - home, by omega, by rw [Nat.mod_eq_of_lt (by omega)]; omega⟩
    · refine ⟨s + K.length - home, by omega, ?_⟩
      rw [show home + (s + K.length - home) = s + K.length by omega, Nat.add_mod_right, Nat.mod_eq_of_lt hs]
  obtain ⟨j, hj, hjs⟩ := hj
  obtain ⟨m, hm, pm, hl⟩ := least (p := fun j => K.getD ((home + j) % K.length) 0 = 0) j (by rw [hjs]; exact hz)
  exact ⟨m, by omega, pm, hl⟩

def keyN (d : Nd) : Nat := d.lv * 2 ^ 56 + d.lo * 2 ^ 28 + d.hi

theorem keyN_inj {d e : Nd} (h1 : d.lo < 2 ^ 28) (h2 : d.hi < 2 ^ 28) (h3 : e.lo < 2 ^ 28) (h4 : e.hi < 2 ^ 28) (h : keyN d = keyN e) : d = e := by
  unfold keyN at h
  have a : d.lv = e.lv := by omega
  have b : d.lo = e.lo := by omega
  have c : d.hi = e.hi := by omega
  cases d; cases e; simp_all

/-- The table's cells K (home: where each key is looked for first) hold the first m nodes of L; sl: the handle at each slot. -/
structure TabInv (home : Nat → Nat) (K : List Nat) (sl : Nat → Option Nat) (L : List Nd) (m : Nat) : Prop where
  inside : ∀ k, home k < K.length
  of : ∀ s, s < K.length → K.getD s 0 ≠ 0 → ∃ i d, i < m ∧ L[i]? = some d ∧ K.getD s 0 = keyN d ∧ sl s = some (i + 2)
  at_ : ∀ i d, i < m → L[i]? = some d → ∃ j, j < K.length ∧ K.getD ((home (keyN d) + j) % K.length) 0 = keyN d ∧ ∀ j', j' < j → K.getD ((home (keyN d) + j') % K.length) 0 ≠ 0
  count : K.countP (fun x => x != 0) = m

theorem countP_set_zero {K : List Nat} {s v : Nat} (hs : s < K.length) (hz : K.getD s 0 = 0) (hv : v ≠ 0) : (K.set s v).countP (fun x => x != 0) = K.countP (fun x => x != 0) + 1 := by
  induction K generalizing s with
  | nil => simp at hs
  | cons a K ih =>
    cases s with
    | zero =>
      have : a = 0 := by simpa using hz
      subst this
      rw [List.set_cons_zero, List.countP_cons_of_pos (by simpa using hv), List.countP_cons_of_neg (by simp)]
    | succ s =>
      rw [List.set_cons_succ, List.countP_cons, List.countP_cons, ih (by simpa using hs) (by simpa using hz)]
      omega

theorem TabInv.insert {home : Nat → Nat} {K : List Nat} {sl : Nat → Option Nat} {L : List Nd} {m j : Nat} {d : Nd} (t : TabInv home K sl L m) (hd : L[m]? = some d) (hk : ∀ (i : Nat) (x : Nd), L[i]? = some x → keyN x ≠ 0)
    (hj : j < K.length) (hz : K.getD ((home (keyN d) + j) % K.length) 0 = 0) (hp : ∀ i, i < j → K.getD ((home (keyN d) + i) % K.length) 0 ≠ 0) :
    TabInv home (K.set ((home (keyN d) + j) % K.length) (keyN d)) (fun s => if s = (home (keyN d) + j) % K.length then some (m + 2) else sl s) L (m + 1) := by
  have hS : 0 < K.length := by omega
  have hs : (home (keyN d) + j) % K.length < K.length := slot_lt hS
  refine ⟨fun k => by rw [List.length_set]; exact t.inside k, ?_, ?_, ?_⟩
  · intro s hsl hne
    rw [List.length_set] at hsl
    rw [getD_set _ _ _ _ hs] at hne ⊢
    by_cases e : s = (home (keyN d) + j) % K.length
    · rw [if_pos e]
      exact ⟨m, d, by omega, hd, rfl, by rw [if_pos e]⟩
    · rw [if_neg e] at hne ⊢
      obtain ⟨i, x, hi, hx, hkx, hsx⟩ := t.of s hsl hne
      exact ⟨i, x, by omega, hx, hkx, by rw [if_neg e]; exact hsx⟩
  · intro i x hi hx
    rw [List.length_set]
    have pres : ∀ u v, K.getD u 0 = v → v ≠ 0 → (K.set ((home (keyN d) + j) % K.length) (keyN d)).getD u 0 = v := by
      intro u v hu hv
      rw [getD_set _ _ _ _ hs]
      by_cases e : u = (home (keyN d) + j) % K.length
      · subst e; rw [hz] at hu; exact absurd hu.symm hv
      · rw [if_neg e]; exact hu
    by_cases e : i = m
    · subst e
      rw [hd] at hx; obtain rfl := Option.some.inj hx
      refine ⟨j, hj, ?_, ?_⟩
      · rw [getD_set _ _ _ _ hs, if_pos rfl]
      · intro j' hj'
        rw [pres _ _ rfl (hp j' hj')]; exact hp j' hj'
    · obtain ⟨j0, hj0, he, hb⟩ := t.at_ i x (by omega) hx
      have hne0 : keyN x ≠ 0 := hk i x hx
      refine ⟨j0, hj0, pres _ _ he hne0, ?_⟩
      intro j' hj'
      rw [pres _ _ rfl (hb j' hj')]; exact hb j' hj'
  · rw [countP_set_zero hs hz (hk m d hd), t.count]

/-- What 'has' finds at the first slot that holds the key. -/
theorem TabInv.found {home : Nat → Nat} {K : List Nat} {sl : Nat → Option Nat} {L : List Nd} {m k s : Nat} (t : TabInv home K sl L m) (hs : s < K.length) (hk : k ≠ 0) (he : K.getD s 0 = k) :
    ∃ i d, i < m ∧ L[i]? = some d ∧ k = keyN d ∧ sl s = some (i + 2) := by
  obtain ⟨i, d, hi, hd, hkd, hsl⟩ := t.of s hs (by rw [he]; exact hk)
  exact ⟨i, d, hi, hd, by rw [← hkd, he], hsl⟩

/-- An empty slot ahead of any that holds the key: the key is nowhere. -/
theorem TabInv.absent {home : Nat → Nat} {K : List Nat} {sl : Nat → Option Nat} {L : List Nd} {m k j : Nat} (t : TabInv home K sl L m) (hk : k ≠ 0) (hz : K.getD ((home k + j) % K.length) 0 = 0)
    (hp : ∀ i, i < j → K.getD ((home k + i) % K.length) 0 ≠ k) : ∀ i d, i < m → L[i]? = some d → keyN d ≠ k := by
  intro i d hi hd e
  obtain ⟨j0, _, he, hb⟩ := t.at_ i d hi hd
  rw [e] at he hb
  rcases Nat.lt_trichotomy j0 j with h | h | h
  · exact hp j0 h he
  · subst h; rw [hz] at he; exact hk he.symm
  · exact hb j h hz

/-- No slot on the whole way round holds the key: the key is nowhere. -/
theorem TabInv.absent_all {home : Nat → Nat} {K : List Nat} {sl : Nat → Option Nat} {L : List Nd} {m k : Nat} (t : TabInv home K sl L m)
    (hp : ∀ i, i < K.length → K.getD ((home k + i) % K.length) 0 ≠ k) : ∀ i d, i < m → L[i]? = some d → keyN d ≠ k := by
  intro i d hi hd e
  obtain ⟨j0, hj, he, _⟩ := t.at_ i d hi hd
  rw [e] at he
  exact hp j0 hj he

/-- An empty table holds no node. -/
theorem TabInv.empty (home : Nat → Nat) (S : Nat) (sl : Nat → Option Nat) (L : List Nd) (hh : ∀ k, home k < S) : TabInv home (List.replicate S 0) sl L 0 := by
  refine ⟨by simpa using hh, ?_, ?_, ?_⟩
  · intro s hs hne
    rw [List.length_replicate] at hs
    exfalso; apply hne
    rw [List.getD_eq_getElem?_getD, List.getElem?_replicate, if_pos hs]; rfl
  · intro i d hi; omega
  · rw [List.countP_replicate]; simp

/-- The table goes by the nodes that are in it alone. -/
theorem TabInv.push {home : Nat → Nat} {K : List Nat} {sl : Nat → Option Nat} {L : List Nd} (t : TabInv home K sl L L.length) (d : Nd) : TabInv home K sl (L ++ [d]) L.length := by
  refine ⟨t.inside, ?_, ?_, t.count⟩
  · intro s hs hne
    obtain ⟨i, x, hi, hx, r⟩ := t.of s hs hne
    exact ⟨i, x, hi, by rw [List.getElem?_append_left hi]; exact hx, r⟩
  · intro i x hi hx
    rw [List.getElem?_append_left hi] at hx
    exact t.at_ i x hi hx

/-! The cache: lines of a version, a key, a value. -/

def wordN (op mask a b c : Nat) : Nat := op * 2 ^ 56 + mask * 2 ^ 48 + a * 2 ^ 32 + b * 2 ^ 16 + c

theorem wordN_inj {op a b c op' a' b' c' : Nat} (h1 : a < 2 ^ 16) (h2 : b < 2 ^ 16) (h3 : c < 2 ^ 16) (k1 : a' < 2 ^ 16) (k2 : b' < 2 ^ 16) (k3 : c' < 2 ^ 16)
    (h : wordN op 0 a b c = wordN op' 0 a' b' c') : op = op' ∧ a = a' ∧ b = b' ∧ c = c' := by
  unfold wordN at h
  refine ⟨by omega, by omega, by omega, by omega⟩

/-- A key and a value that tell a true result. -/
def Entry (n : Nat) (L : List Nd) (k v : Nat) : Prop :=
  ∃ op a b c, (op = 2 ∨ op = 3 ∨ op = 4 ∨ op = 5) ∧ k = wordN op 0 a b c ∧ IsNd (tab L) a ∧ IsNd (tab L) b ∧ IsNd (tab L) c ∧ Is n (tab L) op a b c v

theorem Entry.more {n c : Nat} {L L' : List Nd} {k v : Nat} (hw : Wf n (tab L)) (g : Gr n L L' c) (h : Entry n L k v) : Entry n L' k v := by
  obtain ⟨op, a, b, d, ho, hk, ha, hb, hd, hi, he⟩ := h
  exact ⟨op, a, b, d, ho, hk, g.isNd ha, g.isNd hb, g.isNd hd, g.isNd hi, fun y => by rw [g.D hw hi, g.D hw ha, g.D hw hb, g.D hw hd, he]⟩

theorem Entry.is {n : Nat} {L : List Nd} {op a b c v : Nat} (hL : L.length ≤ 32768) (ha : IsNd (tab L) a) (hb : IsNd (tab L) b) (hc : IsNd (tab L) c) (h : Entry n L (wordN op 0 a b c) v) : Is n (tab L) op a b c v := by
  obtain ⟨op', a', b', c', _, hk, ha', hb', hc', hi⟩ := h
  have lt : ∀ {h}, IsNd (tab L) h → h < 2 ^ 16 := fun {h} hh => by have := isNd_tab.1 hh; omega
  obtain ⟨rfl, rfl, rfl, rfl⟩ := wordN_inj (lt ha) (lt hb) (lt hc) (lt ha') (lt hb') (lt hc') hk
  exact hi

/-- The cache's cells C: each line is unlocked, and what it holds, if it is full, is true. -/
structure CacheInv (n : Nat) (L : List Nd) (lines : Nat) (C : List Nat) : Prop where
  len : C.length = 3 * lines
  even : ∀ l, l < lines → C.getD (3 * l) 0 % 2 = 0
  true_ : ∀ l, l < lines → C.getD (3 * l) 0 % 4 = 2 → Entry n L (C.getD (3 * l + 1) 0) (C.getD (3 * l + 2) 0)

theorem CacheInv.more {n c lines : Nat} {L L' : List Nd} {C : List Nat} (hw : Wf n (tab L)) (g : Gr n L L' c) (h : CacheInv n L lines C) : CacheInv n L' lines C :=
  ⟨h.len, h.even, fun l hl hf => (h.true_ l hl hf).more hw g⟩

theorem CacheInv.none (n : Nat) (L : List Nd) (lines : Nat) : CacheInv n L lines (List.replicate (3 * lines) 0) := by
  have z : ∀ i, (List.replicate (3 * lines) 0).getD i 0 = 0 := fun i => by
    rw [List.getD_eq_getElem?_getD, List.getElem?_replicate]; split <;> rfl
  exact ⟨by simp, fun l _ => by rw [z], fun l _ hf => by rw [z] at hf; omega⟩

/-- A line written anew. -/
def putLine (C : List Nat) (l ver k v : Nat) : List Nat := ((C.set (3 * l + 1) k).set (3 * l + 2) v).set (3 * l) ver

theorem CacheInv.put {n lines : Nat} {L : List Nd} {C : List Nat} (h : CacheInv n L lines C) {l ver k v : Nat} (hl : l < lines) (hv : ver % 4 = 2) (he : Entry n L k v) : CacheInv n L lines (putLine C l ver k v) := by
  have len := h.len
  have g : ∀ i, i < 3 * lines → (putLine C l ver k v).getD i 0 = if i = 3 * l then ver else if i = 3 * l + 2 then v else if i = 3 * l + 1 then k else C.getD i 0 := fun i hi => by
    unfold putLine
    rw [getD_set _ _ _ _ (by simp; omega), getD_set _ _ _ _ (by simp; omega), getD_set _ _ _ _ (by omega)]
  refine ⟨by unfold putLine; simpa using len, ?_, ?_⟩
  · intro j hj
    rw [g _ (by omega)]
    by_cases e : j = l
    · subst e; rw [if_pos rfl]; omega
    · rw [if_neg (by omega), if_neg (by omega), if_neg (by omega)]; exact h.even j hj
  · intro j hj hf
    rw [g _ (by omega)] at hf
    rw [g _ (by omega), g _ (by omega)]
    by_cases e : j = l
    · subst e
      rw [if_neg (by omega), if_neg (by omega), if_pos rfl, if_neg (by omega), if_pos rfl]; exact he
    · rw [if_neg (by omega), if_neg (by omega), if_neg (by omega)] at hf
      rw [if_neg (by omega), if_neg (by omega), if_neg (by omega), if_neg (by omega), if_neg (by omega), if_neg (by omega)]
      exact h.true_ j hj hf

end Go.Proofs.YtiojnjihbidbiaaGreat.Bdd
