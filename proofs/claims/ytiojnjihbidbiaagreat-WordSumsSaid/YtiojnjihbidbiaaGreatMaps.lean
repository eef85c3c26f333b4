/- Maps keyed by integers, over plain functions: look-up and update as equations on the run. No program. -/
import Derived.Test.YtiojnjihbidbiaaGreatHeap
import Derived.MapKept
namespace Go.Proofs.YtiojnjihbidbiaaGreat
open Go.RowKit

/-- What a list of entries holds at an integer key. -/
def mget (kd : IntKind) : List MapEntry → Int → Option Value
  | [], _ => none
  | e :: es, x => match e.key with
    | .int k y => if k = kd ∧ x = y then some e.val else mget kd es x
    | _ => mget kd es x

/-- Block b is a map whose keys are integers of one kind, and which holds f. -/
def MapAt (w : World) (b : Nat) (kd : IntKind) (f : Int → Option Value) : Prop :=
  ∃ es clock, w.heap[b]? = some (.map es clock) ∧ (∀ e ∈ es.toList, ∃ x, e.key = .int kd x) ∧ ∀ x, mget kd es.toList x = f x

theorem MapAt.lt {w : World} {b : Nat} {kd : IntKind} {f : Int → Option Value} (h : MapAt w b kd f) : b < w.heap.size := by
  obtain ⟨es, c, hb, _⟩ := h
  exact (Array.getElem?_eq_some_iff.1 hb).1
theorem MapAt.fr {O : List Nat} {w w' : World} {b : Nat} {kd : IntKind} {f : Int → Option Value} (h : MapAt w b kd f) (fr : Fr O w w') (hb : b ∉ O) : MapAt w' b kd f := by
  have hl := h.lt
  obtain ⟨es, c, he, r⟩ := h
  exact ⟨es, c, by rw [fr.block b hl hb]; exact he, r⟩

theorem MapAt.new (w : World) (kd : IntKind) : MapAt (w.alloc (.map #[] 0)) w.heap.size kd (fun _ => none) :=
  ⟨#[], 0, by show (w.heap.push _)[w.heap.size]? = _; simp, by simp, fun x => rfl⟩

theorem findNow_int (kd : IntKind) (x : Int) : ∀ (es : List MapEntry) (i : Nat), (∀ e ∈ es, ∃ y, e.key = .int kd y) →
    (mget kd es x = none ∧ Instr.findNow (.int kd) (.int kd x) es i = some none) ∨
    ∃ j v, mget kd es x = some v ∧ Instr.findNow (.int kd) (.int kd x) es i = some (some (i + j, v)) ∧ (∃ e, es[j]? = some e ∧ e.key = .int kd x) ∧
      ∀ (v' : Value) y, mget kd (es.modify j fun e => { e with key := .int kd x, val := v' }) y = if y = x then some v' else mget kd es y
  | [], i, _ => .inl ⟨rfl, rfl⟩
  | e :: es, i, h => by
    obtain ⟨y, hy⟩ := h e (by simp)
    by_cases hxy : x = y
    · refine .inr ⟨0, e.val, ?_, ?_, ⟨e, rfl, by rw [hy, hxy]⟩, ?_⟩
      · simp [mget, hy, hxy]
      · simp [Instr.findNow, Instr.sameNow, hy, hxy]
      · intro v' z
        simp only [List.modify_zero_cons, mget, hy, true_and]
        by_cases hz : z = x
        · rw [if_pos hz, if_pos hz]
        · rw [if_neg hz, if_neg hz, if_neg (fun e => hz (e.trans hxy.symm))]
    · rcases findNow_int kd x es (i + 1) (fun e he => h e (by simp [he])) with ⟨h1, h2⟩ | ⟨j, v, h1, h2, ⟨e', he', hk'⟩, h3⟩
      · refine .inl ⟨?_, ?_⟩
        · simp [mget, hy, hxy, h1]
        · simp [Instr.findNow, Instr.sameNow, hy, beq_false_of_ne hxy, h2]
      · refine .inr ⟨j + 1, v, ?_, ?_, ⟨e', by simpa using he', hk'⟩, ?_⟩
        · simp [mget, hy, hxy, h1]
        · simp [Instr.findNow, Instr.sameNow, hy, beq_false_of_ne hxy, h2]; omega
        · intro v' z
          simp only [List.modify_succ_cons, mget, hy, true_and]
          rw [h3 v' z]
          by_cases hz : z = y
          · rw [if_pos hz, if_neg (fun e => hxy (e.symm.trans hz)), if_pos hz]
          · rw [if_neg hz, if_neg hz]

theorem mget_push (kd : IntKind) (x : Int) (v : Value) (c : Nat) : ∀ (es : List MapEntry), mget kd es x = none → (∀ e ∈ es, ∃ y, e.key = .int kd y) →
    ∀ y, mget kd (es ++ [{ key := .int kd x, val := v, born := c }]) y = if y = x then some v else mget kd es y
  | [], _, _, y => by simp [mget]
  | e :: es, h, hk, y => by
    obtain ⟨z, hz⟩ := hk e (by simp)
    simp only [mget, hz, true_and] at h
    simp only [List.cons_append, mget, hz, true_and]
    by_cases hxz : x = z
    · rw [if_pos hxz] at h; cases h
    · rw [if_neg hxz] at h
      rw [mget_push kd x v c es h (fun e he => hk e (by simp [he])) y]
      by_cases hyz : y = z
      · rw [if_pos hyz, if_neg (fun e => hxz (e.symm.trans hyz)), if_pos hyz]
      · rw [if_neg hyz, if_neg hyz]

section
variable {P : Program} {w : World} {t k e : TypeId} {kd : IntKind} {b : Nat} {f : Int → Option Value}

theorem isKey_int (x : Int) : MapKept.IsKey (.int kd) (.int kd x) := by simp [MapKept.IsKey]

/-- 'v, ok := m[x]'. -/
theorem run_lookup_ok (ht : P.underlying t = some (.map k e)) (hk : P.underlying k = some (.int kd)) (hM : MapAt w b kd f) {z : Value} (hz : (zeroValue e).run P w = .ok z w) (x : Int) :
    (Instr.lookup t (.map (some b)) (.int kd x) true).run P w = .ok (.tuple #[(f x).getD z, .bool (f x).isSome]) w := by
  obtain ⟨es, c, hb, hkeys, hf⟩ := hM
  rcases findNow_int kd x es.toList 0 hkeys with ⟨h1, h2⟩ | ⟨j, v, h1, h2, _⟩
  · rw [hf] at h1
    simp [Instr.lookup, run_underlying ht, MapKept.run_getObj_map hb, MapKept.run_checkKey hk (isKey_int x), MapKept.run_findKey hk h2, hz, h1, Result.andThen]
  · rw [hf] at h1
    simp [Instr.lookup, run_underlying ht, MapKept.run_getObj_map hb, MapKept.run_checkKey hk (isKey_int x), MapKept.run_findKey hk h2, h1, Result.andThen]

/-- 'm[x]'. -/
theorem run_lookup_plain (ht : P.underlying t = some (.map k e)) (hk : P.underlying k = some (.int kd)) (hM : MapAt w b kd f) {z : Value} (hz : (zeroValue e).run P w = .ok z w) (x : Int) :
    (Instr.lookup t (.map (some b)) (.int kd x) false).run P w = .ok ((f x).getD z) w := by
  obtain ⟨es, c, hb, hkeys, hf⟩ := hM
  rcases findNow_int kd x es.toList 0 hkeys with ⟨h1, h2⟩ | ⟨j, v, h1, h2, _⟩
  · rw [hf] at h1
    simp [Instr.lookup, run_underlying ht, MapKept.run_getObj_map hb, MapKept.run_checkKey hk (isKey_int x), MapKept.run_findKey hk h2, hz, h1, Result.andThen]
  · rw [hf] at h1
    simp [Instr.lookup, run_underlying ht, MapKept.run_getObj_map hb, MapKept.run_checkKey hk (isKey_int x), MapKept.run_findKey hk h2, h1, Result.andThen]

/-- 'm[x] = v'. -/
theorem run_mapUpdate_int (ht : P.underlying t = some (.map k e)) (hk : P.underlying k = some (.int kd)) (hM : MapAt w b kd f) (x : Int) (v : Value) :
    ∃ w', (Instr.mapUpdate t (.map (some b)) (.int kd x) v).run P w = .ok () w' ∧ MapAt w' b kd (fun y => if y = x then some v else f y) ∧ Fr [b] w w' := by
  obtain ⟨es, c, hb, hkeys, hf⟩ := hM
  have hlt := (Array.getElem?_eq_some_iff.1 hb).1
  rcases findNow_int kd x es.toList 0 hkeys with ⟨h1, h2⟩ | ⟨j, v0, h1, h2, ⟨e', he', hk'⟩, h3⟩
  · refine ⟨{ w with heap := w.heap.setIfInBounds b (.map (es.push { key := .int kd x, val := v, born := c }) (c + 1)) }, ?_, ⟨es.push { key := .int kd x, val := v, born := c }, c + 1, ?_, ?_, ?_⟩, ?_⟩
    · simp [Instr.mapUpdate, run_underlying ht, MapKept.run_getObj_map hb, MapKept.run_checkKey hk (isKey_int x), MapKept.run_findKey hk h2, MapKept.run_setObj_map _ hb, Result.andThen]
    · simp [hlt]
    · intro y hy
      rw [Array.toList_push] at hy
      rcases List.mem_append.1 hy with hy | hy
      · exact hkeys y hy
      · rw [List.mem_singleton] at hy; subst hy; exact ⟨x, rfl⟩
    · intro y
      rw [Array.toList_push, mget_push kd x v c es.toList h1 hkeys y, hf]
    · refine ⟨rfl, rfl, rfl, by simp, fun k' hk1 hk2 => ?_⟩
      simp only [List.mem_singleton] at hk2
      simp [Ne.symm hk2]
  · refine ⟨{ w with heap := w.heap.setIfInBounds b (.map (es.modify j fun e => { e with key := .int kd x, val := v }) c) }, ?_, ⟨es.modify j fun e => { e with key := .int kd x, val := v }, c, ?_, ?_, ?_⟩, ?_⟩
    · have hs := MapKept.run_keyThatStays (P := P) (w := w) (isKey_int (kd := kd) x)
      have hj : (es[j]?.map (·.key)).getD (.int kd x) = .int kd x := by
        rw [← Array.getElem?_toList, he']; simp [hk']
      simp [Instr.mapUpdate, run_underlying ht, MapKept.run_getObj_map hb, MapKept.run_checkKey hk (isKey_int x), MapKept.run_findKey hk h2, hj, hs, MapKept.run_setObj_map _ hb, Result.andThen]
    · simp [hlt]
    · intro y hy
      rw [Array.toList_modify] at hy
      obtain ⟨i, hi⟩ := List.mem_iff_getElem?.1 hy
      rw [List.getElem?_modify] at hi
      obtain ⟨a, ha, hya⟩ := Option.map_eq_some_iff.1 hi
      split at hya
      · subst hya; exact ⟨x, rfl⟩
      · subst hya; exact hkeys a (List.mem_iff_getElem?.2 ⟨i, ha⟩)
    · intro y
      rw [Array.toList_modify, h3 v y, hf]
    · refine ⟨rfl, rfl, rfl, by simp, fun k' hk1 hk2 => ?_⟩
      simp only [List.mem_singleton] at hk2
      simp [Ne.symm hk2]
end

end Go.Proofs.YtiojnjihbidbiaaGreat
