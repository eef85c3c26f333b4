/- Arrays of words that came in. -/
import Derived.Test.YtiojnjihbidbiaaGreatReck3
import Derived.OpenShut
import Derived.ChangeShapes
import Derived.WideShapes
namespace Go.Proofs.YtiojnjihbidbiaaGreat
open Go.RowKit Go.ChangeShapes Go.WideShapes
set_option linter.unusedVariables false

theorem cells_u64 : Tryz.prog.cellsOf 47 = 1 := by kernel_rfl
theorem cells_func : Tryz.prog.cellsOf 49 = 4 := by kernel_rfl
theorem cells_funcs : Tryz.prog.cellsOf 50 = 16 := by kernel_rfl

def wordL (z : List Nat) : List Value := z.map fun x => Value.int .u64 (x : Nat)

section
variable {H : Type} {enc : TypeId × Value → H} {P : Program} {w : World} {base : Nat} {spare : Nat → Bool} {held : Bool} {t t4 e : TypeId}

theorem trod_word {fuel : Nat} {l : List Value} {x : DataW H × List MemPlace} (he : P.underlying e = some (.int .u64)) (h : DataW.trod enc P w base spare held fuel e l = some x) : ∃ n : Nat, l = [.int .u64 (n : Int)] ∧ n < 2 ^ 64 := by
  obtain ⟨n, e, _, hw⟩ := DataW.trod_int he h
  have hb : 0 ≤ n ∧ n < 18446744073709551616 := by simp [Lit.wf, IntKind.min, IntKind.max, IntKind.signed, IntKind.bits] at hw; omega
  refine ⟨n.toNat, ?_, by omega⟩
  rw [e, show ((n.toNat : Nat) : Int) = n by omega]

theorem trod_words4 {fuel : Nat} {l : List Value} {x : DataW H × List MemPlace} (h4 : P.underlying t4 = some (.array 4 e)) (he : P.underlying e = some (.int .u64)) (ce : P.cellsOf e = 1) (c4 : P.cellsOf t4 = 4)
    (h : DataW.trod enc P w base spare held fuel t4 l = some x) : ∃ z : List Nat, l = wordL z ∧ z.length = 4 ∧ ∀ x ∈ z, x < 2 ^ 64 := by
  obtain ⟨xs, m, _, _, hl, hx, hi⟩ := DataW.trod_array h4 h
  rw [c4] at hl
  have key : ∀ i, i < 4 → ∃ n : Nat, (l.drop i).take 1 = [.int .u64 (n : Int)] ∧ n < 2 ^ 64 := fun i h4 => by
    have h1 := hi i h4
    rw [List.getElem?_eq_getElem (by omega), ce, Nat.mul_one] at h1
    exact trod_word he h1
  obtain ⟨a, ea, ha⟩ := key 0 (by omega)
  obtain ⟨b, eb, hb⟩ := key 1 (by omega)
  obtain ⟨c, ec, hc⟩ := key 2 (by omega)
  obtain ⟨d, ed, hd⟩ := key 3 (by omega)
  obtain ⟨u0, u1, u2, u3, rfl⟩ : ∃ u0 u1 u2 u3, l = [u0, u1, u2, u3] := by
    match l, hl with
    | [u0, u1, u2, u3], _ => exact ⟨u0, u1, u2, u3, rfl⟩
  simp at ea eb ec ed
  subst ea eb ec ed
  refine ⟨[a, b, c, d], rfl, rfl, fun x hx => ?_⟩
  simp only [List.mem_cons, List.not_mem_nil, or_false] at hx
  rcases hx with h | h | h | h <;> rw [h] <;> assumption

theorem trod_words16 {fuel : Nat} {l : List Value} {x : DataW H × List MemPlace} (ht : P.underlying t = some (.array 4 t4)) (h4 : P.underlying t4 = some (.array 4 e)) (he : P.underlying e = some (.int .u64)) (ce : P.cellsOf e = 1) (c4 : P.cellsOf t4 = 4) (ct : P.cellsOf t = 16)
    (h : DataW.trod enc P w base spare held fuel t l = some x) : ∃ z : List Nat, l = wordL z ∧ z.length = 16 ∧ ∀ x ∈ z, x < 2 ^ 64 := by
  obtain ⟨xs, m, _, _, hl, hx, hi⟩ := DataW.trod_array ht h
  rw [ct] at hl
  have key : ∀ i, i < 4 → ∃ z : List Nat, (l.drop (i * 4)).take 4 = wordL z ∧ z.length = 4 ∧ ∀ x ∈ z, x < 2 ^ 64 := fun i hi4 => by
    have h1 := hi i hi4
    rw [List.getElem?_eq_getElem (by omega), c4] at h1
    exact trod_words4 h4 he ce c4 h1
  obtain ⟨a, ea, la, ha⟩ := key 0 (by omega)
  obtain ⟨b, eb, lb, hb⟩ := key 1 (by omega)
  obtain ⟨c, ec, lc, hc⟩ := key 2 (by omega)
  obtain ⟨d, ed, ld, hd⟩ := key 3 (by omega)
  refine ⟨a ++ b ++ c ++ d, ?_, by simp [la, lb, lc, ld], fun x hx => ?_⟩
  · unfold wordL at *
    rw [List.map_append, List.map_append, List.map_append, ← ea, ← eb, ← ec, ← ed]
    have e1 : l.drop 12 = (l.drop (3 * 4)).take 4 := by rw [List.take_of_length_le (by simp; omega)]
    rw [← e1]
    simp only [Nat.zero_mul, Nat.one_mul, List.drop_zero]
    rw [List.append_assoc, List.append_assoc]
    have f1 : (l.drop (2 * 4)).take 4 ++ l.drop 12 = l.drop 8 := by
      have := List.take_append_drop 4 (l.drop 8); rwa [List.drop_drop] at this
    have f2 : (l.drop 4).take 4 ++ l.drop 8 = l.drop 4 := by
      have := List.take_append_drop 4 (l.drop 4); rwa [List.drop_drop] at this
    rw [f1, f2, List.take_append_drop]
  · simp only [List.mem_append] at hx
    rcases hx with ((hx | hx) | hx) | hx
    · exact ha x hx
    · exact hb x hx
    · exact hc x hx
    · exact hd x hx

theorem wordL_arr {cs : Array Value} {z : List Nat} (h : cs.toList = wordL z) : cs = wordCells z := by
  apply Array.ext'
  rw [h]; simp [wordCells, ints, wordL]

theorem open_agg {n : Nat} {r : Reach} {b0 : Nat} {v : Value} (ht : P.underlying t = some (.array n e)) (hval : Value.okWide P w r b0 t v) : ∃ cs, v = .agg cs := by
  obtain ⟨cs, rfl, _⟩ : ∃ cs, v = .agg cs ∧ cs.size = P.cellsOf t ∧ Row.okWide P w r b0 t cs := by simpa [Value.okWide, ht] using hval
  exact ⟨cs, rfl⟩
end

section
variable {H : Type} {enc : TypeId × Value → H} {w : World} {base : Nat} {spare : Nat → Bool} {held : Bool}
set_option maxRecDepth 100000 in
theorem open_words4 {r : Reach} {b0 : Nat} {v : Value} {d : DataW H} {ps : List MemPlace} (hval : Value.okWide Tryz.prog w r b0 49 v) (hd : DataW.Trod enc Tryz.prog w base spare held 49 v d ps) :
    ∃ z : List Nat, v = .agg (wordCells z) ∧ z.length = 4 ∧ ∀ x ∈ z, x < 2 ^ 64 := by
  obtain ⟨cs, rfl⟩ := open_agg (P := Tryz.prog) Tryz.underlying49 hval
  obtain ⟨fuel, hf⟩ := hd
  obtain ⟨z, e, h⟩ := trod_words4 Tryz.underlying49 Tryz.underlying47 cells_u64 cells_func hf
  exact ⟨z, congrArg Value.agg (wordL_arr e), h⟩

set_option maxRecDepth 100000 in
theorem open_words16 {r : Reach} {b0 : Nat} {v : Value} {d : DataW H} {ps : List MemPlace} (hval : Value.okWide Tryz.prog w r b0 50 v) (hd : DataW.Trod enc Tryz.prog w base spare held 50 v d ps) :
    ∃ z : List Nat, v = .agg (wordCells z) ∧ z.length = 16 ∧ ∀ x ∈ z, x < 2 ^ 64 := by
  obtain ⟨cs, rfl⟩ := open_agg (P := Tryz.prog) Tryz.underlying50 hval
  obtain ⟨fuel, hf⟩ := hd
  obtain ⟨z, e, h⟩ := trod_words16 Tryz.underlying50 Tryz.underlying49 Tryz.underlying47 cells_u64 cells_func cells_funcs hf
  exact ⟨z, congrArg Value.agg (wordL_arr e), h⟩
end
end Go.Proofs.YtiojnjihbidbiaaGreat
