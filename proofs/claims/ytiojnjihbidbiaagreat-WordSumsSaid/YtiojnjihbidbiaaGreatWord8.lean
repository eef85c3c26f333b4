/- word: a store and words in a law's own session. -/
import Derived.Test.YtiojnjihbidbiaaGreatWord7
namespace Go.Proofs.YtiojnjihbidbiaaGreat
open Go.RowKit
attribute [local go_sem ↓] Go.wp_at_zero Go.wp_at_succ
set_option linter.unusedVariables false

/-- A store of one's own: nothing that was there before w has been touched. -/
structure Ses (w w1 : World) (s : Nat) (B : List Nat) (n room : Nat) (off : Bool) (L : List Bdd.Nd) : Prop where
  sto : Sto w1 s B n room off L
  fr : Fr [] w w1
  new : ∀ k ∈ B, w.heap.size ≤ k

/-- A word beside the store. -/
structure WAt (w1 : World) (B : List Nat) (v : Value) (hs : List Nat) : Prop where
  row : HsAt w1 v hs
  own : ∀ k, v.ownBlock = some k → k ∉ B

section
variable {w w1 w2 : World} {s n room c : Nat} {off : Bool} {B B' : List Nat} {L L' : List Bdd.Nd} {v : Value} {hs : List Nat}

theorem Ses.evo (h : Ses w w1 s B n room off L) (e : Evo s n room off B L w1 B' L' w2 c) : Ses w w2 s B' n room off L' :=
  ⟨e.sto, h.fr.trans e.fr (fun x hx => .inr (h.new x hx)), fun k hk => by
    rcases e.own k hk with h1 | h1
    · exact h.new k h1
    · have := h.fr.size; omega⟩
theorem Ses.then (h : Ses w w1 s B n room off L) (f : Fr [] w1 w2) : Ses w w2 s B n room off L := ⟨h.sto.fr f (by simp), h.fr.then f, h.new⟩
theorem WAt.evo (h : WAt w1 B v hs) (e : Evo s n room off B L w1 B' L' w2 c) : WAt w2 B' v hs :=
  ⟨h.row.fr e.fr h.own, fun k hk hb => by
    rcases e.own k hb with h1 | h1
    · exact h.own k hk h1
    · have := h.row.lt hk; omega⟩
theorem WAt.then (h : WAt w1 B v hs) (f : Fr [] w1 w2) : WAt w2 B v hs := ⟨h.row.fr f (by simp), h.own⟩
theorem WOut.at (h : WOut s n room off B L w1 B' L' w2 c v hs) : WAt w2 B' v hs := ⟨h.row, fun k hk => (h.own k hk).2⟩
theorem OutRel.at (h : OutRel hs w1 v w2) (hB : ∀ k ∈ B, k < w1.heap.size) : WAt w2 B v hs := ⟨h.1, fun k hk hb => by have := hB k hb; have := h.2.2 k hk; omega⟩

/-- The bits of a number. -/
def conF (x : Nat) (i : Nat) : Fn := fun _ => decide (x / 2 ^ i % 2 = 1)
theorem den_const (x k : Nat) : DenL n L (constL x k) (conF x) := fun i h hh => by
  unfold constL at hh
  rw [List.getElem?_map] at hh
  rcases Nat.lt_or_ge i k with hi | hi
  · rw [List.getElem?_range hi] at hh
    obtain rfl : x / 2 ^ i % 2 = h := Option.some.inj hh
    have : x / 2 ^ i % 2 = 0 ∨ x / 2 ^ i % 2 = 1 := by omega
    unfold conF
    rcases this with e | e
    · rw [e]; exact Den.zero
    · rw [e]; exact Den.one
  · rw [List.getElem?_eq_none (by simp; omega)] at hh
    cases hh

/-- Two words that tell the same functions have the same handles. -/
theorem DenL.eq {hs ks : List Nat} {F G : Nat → Fn} {m : Nat} (d : DenL n L hs F) (e : DenL n L ks G) (hw : Bdd.Wf n (Bdd.tab L)) (l1 : hs.length = m) (l2 : ks.length = m) (hf : ∀ i, i < m → ∀ y, F i y = G i y) : hs = ks := by
  apply List.ext_getElem (by omega)
  intro i h1 h2
  exact (d i _ (List.getElem?_eq_getElem h1)).eq (e i _ (List.getElem?_eq_getElem h2)) hw (hf i (by omega))

/-- A variable that isn't there. -/
theorem vars_bad (h : Sto w s B n room off L) {a : Nat} (ha : n ≤ a) (ha2 : a < 1000) (hI : IntsAt w v [a]) :
    Calls Tryz.prog 87 #[.pointer (some ⟨s, 0, none⟩), v] w fun e w' => e = .returned (.tuple #[.slice none 0 0, .int .i64 40]) ∧ w = w' := by
  obtain ⟨g, cap, rfl, cg⟩ := intsAt_get hI (i := 0) (x := a) rfl
  go_enter Tryz.func87, Tryz.ntmps87
  go_wp2_with fail
  refine (long_any 1 _ (by omega) (by omega)).mono ?_
  rintro e w' ⟨rfl, rfl⟩
  go_wp2_with fail
  refine wp_loop_rounds 2 ?_
  rw [rounds_succ]
  go_wp2_with fail
  refine (sto_vars h).mono ?_
  rintro e w' ⟨rfl, rfl⟩
  go_wp2
  go_ret2
  exact ⟨rfl, rfl⟩

/-- Words of unlike lengths aren't multiplied. -/
theorem mul_nil (h : Sto w s B n room off L) {m : Nat} {xs : List Nat} {F : Nat → Fn} (hA : HsAt w v xs) (la : xs.length = m) (m1 : 1 ≤ m) (m8 : m ≤ 8) (dA : DenL n L xs F) :
    Calls Tryz.prog 32 #[.pointer (some ⟨s, 0, none⟩), v, .slice none 0 0] w fun e w' => e = .returned (.tuple #[.slice none 0 0, .int .i64 40]) ∧ Fr [] w w' := by
  obtain ⟨aa, acap, rfl⟩ : ∃ aa acap, v = .slice aa m acap := by obtain ⟨aa, acap, e, _⟩ := hA.shape; exact ⟨aa, acap, by rw [e, la]⟩
  have hlen := h.len
  have F1 : Fr [] w (w.alloc (.cells #[.slice aa m acap, .slice none 0 0] 24)) := (Fr.refl [] w).alloc _
  have HF := Lib.hid F1
  have R := Lib.hid (refuses_any (h.fr F1 (by simp)) (two_rows hA (HsAt.nil w)) (by simp) (fun i p j x hp hx => by
      match i, hp with
      | 0, hp => obtain rfl := Option.some.inj hp; have := dA.nd hx; omega
      | 1, hp => obtain rfl := Option.some.inj hp; simp at hx
      | i + 2, hp => simp at hp) (fun i p hp => by
      match i, hp with
      | 0, hp => obtain rfl := Option.some.inj hp; show xs.length < _; omega
      | 1, hp => obtain rfl := Option.some.inj hp; show 0 < 1000000; omega
      | i + 2, hp => simp at hp))
  have hbad : badLen [((.slice aa m acap : Value), xs), ((.slice none 0 0 : Value), ([] : List Nat))] := ⟨1, _, _, rfl, rfl, .inl (by show 0 < 1; omega)⟩
  have HB := Lib.hid hbad
  clear hbad hA dA F1
  go_enter Tryz.func32, Tryz.ntmps32
  go_wp2_with fail
  refine R.out.mono ?_
  rintro e w2 ⟨rfl, hr⟩
  rcases hr with ⟨rfl, _⟩ | ⟨_, hr, _⟩ | ⟨_, hr, _⟩
  · go_wp2
    go_ret2
    exact ⟨rfl, HF.out⟩
  · exact absurd HB.out hr
  · exact absurd HB.out hr
end
end Go.Proofs.YtiojnjihbidbiaaGreat
