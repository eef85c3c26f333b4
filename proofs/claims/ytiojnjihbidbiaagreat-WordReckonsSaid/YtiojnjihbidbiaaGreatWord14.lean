/- word, walked: words that may be refused, of a store of three variables. -/
import Derived.Test.YtiojnjihbidbiaaGreatWord13
namespace Go.Proofs.YtiojnjihbidbiaaGreat
open Go.RowKit
attribute [local go_sem ↓] Go.wp_at_zero Go.wp_at_succ
set_option linter.unusedVariables false

/-- Two words in a law's own session, and what all operations answer of them. -/
structure RawAt (wb w : World) (s : Nat) (B : List Nat) (L : List Bdd.Nd) (v1 v2 : Value) (a1 a2 : List Nat) (c : Int) : Prop where
  ses : Ses wb w s B 3 500 false L
  A : WAt w B v1 a1
  X : WAt w B v2 a2
  sm1 : ∀ (j x : Nat), a1[j]? = some x → x < 4294967296
  sm2 : ∀ (j x : Nat), a2[j]? = some x → x < 4294967296
  l1 : a1.length ≤ 12
  l2 : a2.length ≤ 12
  st : (c = 0 ∧ ∃ (m : Nat) (F G : Nat → Fn), a1.length = m ∧ a2.length = m ∧ 1 ≤ m ∧ m ≤ 8 ∧ DenL 3 L a1 F ∧ DenL 3 L a2 G) ∨ (c = 40 ∧ badLen [(v1, a1), (v2, a2)]) ∨ (c = 101 ∧ ¬ badLen [(v1, a1), (v2, a2)] ∧ badNd L [(v1, a1), (v2, a2)])

section
variable {wb w w' : World} {s : Nat} {B : List Nat} {L : List Bdd.Nd} {v1 v2 : Value} {a1 a2 : List Nat} {c : Int}

theorem RawAt.fr (h : RawAt wb w s B L v1 v2 a1 a2 c) (f : Fr [] w w') : RawAt wb w' s B L v1 v2 a1 a2 c :=
  ⟨h.ses.then f, h.A.then f, h.X.then f, h.sm1, h.sm2, h.l1, h.l2, h.st⟩

theorem RawAt.evo {B' : List Nat} {L' : List Bdd.Nd} {k : Nat} (h : RawAt wb w s B L v1 v2 a1 a2 0) (e : Evo s 3 500 false B L w B' L' w' k) : RawAt wb w' s B' L' v1 v2 a1 a2 0 :=
  ⟨h.ses.evo e, h.A.evo e, h.X.evo e, h.sm1, h.sm2, h.l1, h.l2, by
    rcases h.st with ⟨_, m, F, G, e1, e2, e3, e4, d1, d2⟩ | ⟨e, _⟩ | ⟨e, _⟩
    · exact .inl ⟨rfl, m, F, G, e1, e2, e3, e4, d1.more h.ses.sto.wf e.gr, d2.more h.ses.sto.wf e.gr⟩
    · cases e
    · cases e⟩

/-- The words are refused. -/
theorem raw_refuses (h : RawAt wb w s B L v1 v2 a1 a2 c) (hc : c ≠ 0) :
    Calls Tryz.prog 98 #[.pointer (some ⟨s, 0, none⟩), .slice (some ⟨w.heap.size, 0, none⟩) 2 2] (w.alloc (.cells #[v1, v2] 24)) fun e w' => e = .returned (.int .i64 c) ∧ w.alloc (.cells #[v1, v2] 24) = w' := by
  refine (refuses_any (h.ses.sto.fr ((Fr.refl [] w).alloc _) (by simp)) (two_rows h.A.row h.X.row) (by simp) (fun i p j x hp hx => ?_) (fun i p hp => ?_)).mono ?_
  · match i, hp with
    | 0, hp => obtain rfl := Option.some.inj hp; exact h.sm1 j x hx
    | 1, hp => obtain rfl := Option.some.inj hp; exact h.sm2 j x hx
    | i + 2, hp => simp at hp
  · have := h.l1
    have := h.l2
    match i, hp with
    | 0, hp => obtain rfl := Option.some.inj hp; show a1.length < _; omega
    | 1, hp => obtain rfl := Option.some.inj hp; show a2.length < _; omega
    | i + 2, hp => simp at hp
  · rintro e w' ⟨e1, hr⟩
    refine ⟨?_, e1⟩
    rcases h.st with ⟨e, _⟩ | ⟨rfl, hb⟩ | ⟨rfl, hb, hn⟩
    · exact absurd e hc
    · rcases hr with ⟨e, _⟩ | ⟨_, hr, _⟩ | ⟨_, hr, _⟩
      · exact e
      · exact absurd hb hr
      · exact absurd hb hr
    · rcases hr with ⟨_, hr⟩ | ⟨e, _⟩ | ⟨_, _, hr⟩
      · exact absurd hr hb
      · exact e
      · exact absurd hn hr

theorem RawAt.shape (h : RawAt wb w s B L v1 v2 a1 a2 c) : (∃ a cap, v1 = .slice a a1.length cap) ∧ (∃ a cap, v2 = .slice a a2.length cap) := by
  obtain ⟨a, cap, e, _⟩ := h.A.row.shape
  obtain ⟨a', cap', e', _⟩ := h.X.row.shape
  exact ⟨⟨a, cap, e⟩, ⟨a', cap', e'⟩⟩

/-- Words that are refused aren't joined. -/
theorem chained_bad {f : Value} (h : RawAt wb w s B L v1 v2 a1 a2 c) (hc : c ≠ 0) :
    Calls Tryz.prog 89 #[.pointer (some ⟨s, 0, none⟩), v1, v2, f] w fun e w' => e = .returned (.tuple #[.slice none 0 0, .int .u32 0, .int .i64 c]) ∧ Fr [] w w' := by
  have R := Lib.hid (raw_refuses h hc)
  have F1 : Fr [] w (w.alloc (.cells #[v1, v2] 24)) := (Fr.refl [] w).alloc _
  have HF := Lib.hid F1
  obtain ⟨⟨a, cap, e⟩, ⟨a', cap', e'⟩⟩ := h.shape
  have hcc : c = 40 ∨ c = 101 := by
    rcases h.st with ⟨e, _⟩ | ⟨e, _⟩ | ⟨e, _⟩
    · exact absurd e hc
    · exact .inl e
    · exact .inr e
  subst e e'
  clear h F1
  rcases hcc with rfl | rfl
  all_goals
    go_enter Tryz.func89, Tryz.ntmps89
    go_wp2_with fail
    refine R.out.mono ?_
    rintro e w1 ⟨rfl, rfl⟩
    go_wp2
    refine bodyPost_ret (results_tmp3 rfl _ _ _) rfl ?_
    exact ⟨rfl, HF.out⟩

theorem mul_bad (h : RawAt wb w s B L v1 v2 a1 a2 c) (hc : c ≠ 0) :
    Calls Tryz.prog 32 #[.pointer (some ⟨s, 0, none⟩), v1, v2] w fun e w' => e = .returned (.tuple #[.slice none 0 0, .int .i64 c]) ∧ Fr [] w w' := by
  have R := Lib.hid (raw_refuses h hc)
  have HF := Lib.hid (((Fr.refl [] w).alloc (.cells #[v1, v2] 24)))
  obtain ⟨⟨a, cap, e⟩, ⟨a', cap', e'⟩⟩ := h.shape
  have hcc : c = 40 ∨ c = 101 := by
    rcases h.st with ⟨e, _⟩ | ⟨e, _⟩ | ⟨e, _⟩
    · exact absurd e hc
    · exact .inl e
    · exact .inr e
  subst e e'
  clear h
  rcases hcc with rfl | rfl
  all_goals
    go_enter Tryz.func32, Tryz.ntmps32
    go_wp2_with fail
    refine R.out.mono ?_
    rintro e w1 ⟨rfl, rfl⟩
    go_wp2
    go_ret2
    exact ⟨rfl, HF.out⟩

theorem same_bad (h : RawAt wb w s B L v1 v2 a1 a2 c) (hc : c ≠ 0) :
    Calls Tryz.prog 34 #[.pointer (some ⟨s, 0, none⟩), v1, v2] w fun e w' => e = .returned (.tuple #[.int .u32 0, .int .i64 c]) ∧ Fr [] w w' := by
  have R := Lib.hid (raw_refuses h hc)
  have HF := Lib.hid (((Fr.refl [] w).alloc (.cells #[v1, v2] 24)))
  obtain ⟨⟨a, cap, e⟩, ⟨a', cap', e'⟩⟩ := h.shape
  have hcc : c = 40 ∨ c = 101 := by
    rcases h.st with ⟨e, _⟩ | ⟨e, _⟩ | ⟨e, _⟩
    · exact absurd e hc
    · exact .inl e
    · exact .inr e
  subst e e'
  clear h
  rcases hcc with rfl | rfl
  all_goals
    go_enter Tryz.func34, Tryz.ntmps34
    go_wp2_with fail
    refine R.out.mono ?_
    rintro e w1 ⟨rfl, rfl⟩
    go_wp2
    go_ret2
    exact ⟨rfl, HF.out⟩

theorem ite_bad (h : RawAt wb w s B L v1 v2 a1 a2 c) (hc : c ≠ 0) :
    Calls Tryz.prog 35 #[.pointer (some ⟨s, 0, none⟩), .int .u32 1, v1, v2] w fun e w' => e = .returned (.tuple #[.slice none 0 0, .int .i64 c]) ∧ Fr [] w w' := by
  have R := Lib.hid (raw_refuses h hc)
  have HF := Lib.hid (((Fr.refl [] w).alloc (.cells #[v1, v2] 24)))
  obtain ⟨⟨a, cap, e⟩, ⟨a', cap', e'⟩⟩ := h.shape
  have hcc : c = 40 ∨ c = 101 := by
    rcases h.st with ⟨e, _⟩ | ⟨e, _⟩ | ⟨e, _⟩
    · exact absurd e hc
    · exact .inl e
    · exact .inr e
  subst e e'
  clear h
  rcases hcc with rfl | rfl
  all_goals
    go_enter Tryz.func35, Tryz.ntmps35
    go_wp2_with fail
    refine R.out.mono ?_
    rintro e w1 ⟨rfl, rfl⟩
    go_wp2
    go_ret2
    exact ⟨rfl, HF.out⟩

theorem add_bad (h : RawAt wb w s B L v1 v2 a1 a2 c) (hc : c ≠ 0) :
    Calls Tryz.prog 26 #[.pointer (some ⟨s, 0, none⟩), v1, v2] w fun e w' => e = .returned (.tuple #[.slice none 0 0, .int .u32 0, .int .i64 c]) ∧ Fr [] w w' := by
  have R := Lib.hid (chained_bad (f := fnV 90) h hc)
  clear h
  go_enter Tryz.func26, Tryz.ntmps26
  go_wp2_with fail
  refine R.out.mono ?_
  rintro e w1 ⟨rfl, hF⟩
  go_wp2
  refine bodyPost_ret (results_tmp3 rfl _ _ _) rfl ?_
  exact ⟨rfl, hF⟩

theorem sub_bad (h : RawAt wb w s B L v1 v2 a1 a2 c) (hc : c ≠ 0) :
    Calls Tryz.prog 27 #[.pointer (some ⟨s, 0, none⟩), v1, v2] w fun e w' => e = .returned (.tuple #[.slice none 0 0, .int .u32 0, .int .i64 c]) ∧ Fr [] w w' := by
  have R := Lib.hid (chained_bad (f := fnV 91) h hc)
  clear h
  go_enter Tryz.func27, Tryz.ntmps27
  go_wp2_with fail
  refine R.out.mono ?_
  rintro e w1 ⟨rfl, hF⟩
  go_wp2
  refine bodyPost_ret (results_tmp3 rfl _ _ _) rfl ?_
  exact ⟨rfl, hF⟩

theorem less_bad (h : RawAt wb w s B L v1 v2 a1 a2 c) (hc : c ≠ 0) :
    Calls Tryz.prog 33 #[.pointer (some ⟨s, 0, none⟩), v1, v2] w fun e w' => e = .returned (.tuple #[.int .u32 0, .int .i64 c]) ∧ Fr [] w w' := by
  have R := Lib.hid (sub_bad h hc)
  clear h
  go_enter Tryz.func33, Tryz.ntmps33
  go_wp2_with fail
  refine R.out.mono ?_
  rintro e w1 ⟨rfl, hF⟩
  go_wp2
  go_ret2
  exact ⟨rfl, hF⟩

theorem RawAt.good (h : RawAt wb w s B L v1 v2 a1 a2 0) : ∃ (m : Nat) (F G : Nat → Fn), a1.length = m ∧ a2.length = m ∧ 1 ≤ m ∧ m ≤ 8 ∧ DenL 3 L a1 F ∧ DenL 3 L a2 G := by
  rcases h.st with ⟨_, h⟩ | ⟨e, _⟩ | ⟨e, _⟩
  · exact h
  · cases e
  · cases e

/-- What an operation answers. -/
def Raw3 (wb : World) (s : Nat) (v1 v2 : Value) (a1 a2 : List Nat) (c : Int) (e : Ending) (w' : World) : Prop :=
  ∃ (r1 r2 : Value) (B' : List Nat) (L' : List Bdd.Nd), e = .returned (.tuple #[r1, r2, .int .i64 c]) ∧ RawAt wb w' s B' L' v1 v2 a1 a2 c
def Raw2 (wb : World) (s : Nat) (v1 v2 : Value) (a1 a2 : List Nat) (c : Int) (e : Ending) (w' : World) : Prop :=
  ∃ (r1 : Value) (B' : List Nat) (L' : List Bdd.Nd), e = .returned (.tuple #[r1, .int .i64 c]) ∧ RawAt wb w' s B' L' v1 v2 a1 a2 c

theorem add_raw (h : RawAt wb w s B L v1 v2 a1 a2 c) :
    Calls Tryz.prog 26 #[.pointer (some ⟨s, 0, none⟩), v1, v2] w (Raw3 wb s v1 v2 a1 a2 c) := by
  by_cases hc : c = 0
  · subst hc
    obtain ⟨m, F, G, l1, l2, m1, m8, d1, d2⟩ := h.good
    refine (add_word h.ses.sto h.A.row h.X.row h.A.own h.X.own l1 l2 m1 m8 d1 d2 (.inr ⟨by omega, by omega⟩)).mono ?_
    rintro e w' ⟨v, hs, k, B', L', rfl, hW, _⟩
    exact ⟨v, _, B', L', rfl, h.evo hW.evo⟩
  · exact (add_bad h hc).mono fun e w' ⟨e1, f⟩ => ⟨_, _, B, L, e1, h.fr f⟩

theorem sub_raw (h : RawAt wb w s B L v1 v2 a1 a2 c) :
    Calls Tryz.prog 27 #[.pointer (some ⟨s, 0, none⟩), v1, v2] w (Raw3 wb s v1 v2 a1 a2 c) := by
  by_cases hc : c = 0
  · subst hc
    obtain ⟨m, F, G, l1, l2, m1, m8, d1, d2⟩ := h.good
    refine (sub_word h.ses.sto h.A.row h.X.row h.A.own h.X.own l1 l2 m1 m8 d1 d2 (.inr ⟨by omega, by omega⟩)).mono ?_
    rintro e w' ⟨v, hs, k, B', L', rfl, hW, _⟩
    exact ⟨v, _, B', L', rfl, h.evo hW.evo⟩
  · exact (sub_bad h hc).mono fun e w' ⟨e1, f⟩ => ⟨_, _, B, L, e1, h.fr f⟩

theorem mul_raw (h : RawAt wb w s B L v1 v2 a1 a2 c) :
    Calls Tryz.prog 32 #[.pointer (some ⟨s, 0, none⟩), v1, v2] w (Raw2 wb s v1 v2 a1 a2 c) := by
  by_cases hc : c = 0
  · subst hc
    obtain ⟨m, F, G, l1, l2, m1, m8, d1, d2⟩ := h.good
    refine (mul_word h.ses.sto h.A.row h.X.row h.A.own h.X.own l1 l2 m1 m8 d1 d2 (.inr ⟨by omega, by omega⟩)).mono ?_
    rintro e w' ⟨v, hs, B', L', rfl, hW, _⟩
    exact ⟨v, B', L', rfl, h.evo hW.evo⟩
  · exact (mul_bad h hc).mono fun e w' ⟨e1, f⟩ => ⟨_, B, L, e1, h.fr f⟩

theorem less_raw (h : RawAt wb w s B L v1 v2 a1 a2 c) :
    Calls Tryz.prog 33 #[.pointer (some ⟨s, 0, none⟩), v1, v2] w (Raw2 wb s v1 v2 a1 a2 c) := by
  by_cases hc : c = 0
  · subst hc
    obtain ⟨m, F, G, l1, l2, m1, m8, d1, d2⟩ := h.good
    refine (less_word h.ses.sto h.A.row h.X.row h.A.own h.X.own l1 l2 m1 m8 d1 d2 (.inr ⟨by omega, by omega⟩)).mono ?_
    rintro e w' ⟨k, B', L', rfl, hW, _⟩
    exact ⟨_, B', L', rfl, h.evo hW⟩
  · exact (less_bad h hc).mono fun e w' ⟨e1, f⟩ => ⟨_, B, L, e1, h.fr f⟩

theorem same_raw (h : RawAt wb w s B L v1 v2 a1 a2 c) :
    Calls Tryz.prog 34 #[.pointer (some ⟨s, 0, none⟩), v1, v2] w (Raw2 wb s v1 v2 a1 a2 c) := by
  by_cases hc : c = 0
  · subst hc
    obtain ⟨m, F, G, l1, l2, m1, m8, d1, d2⟩ := h.good
    refine (same_word h.ses.sto h.A.row h.X.row h.A.own h.X.own l1 l2 m1 m8 d1 d2 (.inr ⟨by omega, by omega⟩)).mono ?_
    rintro e w' ⟨k, B', L', rfl, hW, _⟩
    exact ⟨_, B', L', rfl, h.evo hW⟩
  · exact (same_bad h hc).mono fun e w' ⟨e1, f⟩ => ⟨_, B, L, e1, h.fr f⟩

theorem ite_raw (h : RawAt wb w s B L v1 v2 a1 a2 c) :
    Calls Tryz.prog 35 #[.pointer (some ⟨s, 0, none⟩), .int .u32 1, v1, v2] w (Raw2 wb s v1 v2 a1 a2 c) := by
  by_cases hc : c = 0
  · subst hc
    obtain ⟨m, F, G, l1, l2, m1, m8, d1, d2⟩ := h.good
    refine (ite_word h.ses.sto Den.one h.A.row h.X.row h.A.own h.X.own l1 l2 m1 m8 d1 d2 (.inr ⟨by omega, by omega⟩)).mono ?_
    rintro e w' ⟨v, hs, B', L', rfl, hW, _⟩
    exact ⟨v, B', L', rfl, h.evo hW.evo⟩
  · exact (ite_bad h hc).mono fun e w' ⟨e1, f⟩ => ⟨_, B, L, e1, h.fr f⟩

end
end Go.Proofs.YtiojnjihbidbiaaGreat
