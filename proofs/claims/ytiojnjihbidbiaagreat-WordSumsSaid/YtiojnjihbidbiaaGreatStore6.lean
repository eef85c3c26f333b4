/- A store's table made anew with all its nodes, walked. -/
import Derived.Test.YtiojnjihbidbiaaGreatStore5
namespace Go.Proofs.YtiojnjihbidbiaaGreat
open Go.RowKit
attribute [local go_sem ↓] Go.wp_at_zero Go.wp_at_succ
set_option linter.unusedVariables false

theorem mlen_len (m cb S : Nat) (K : List Nat) (w : World) (h : MemAt w m cb K) (hS : K.length = S) :
    Calls Tryz.prog 159 #[.pointer (some ⟨m, 0, none⟩)] w fun e w' => e = .returned (.int .i64 (S : Int)) ∧ w = w' := by
  subst hS
  exact mlen_any m cb K w h

theorem utnew_any (m cb S : Nat) (K : List Nat) (w : World) (h : MemAt w m cb K) (hK : K.length = S) (hS : 1 ≤ S) (hS2 : S ≤ 262144) :
    Calls Tryz.prog 160 #[.pointer (some ⟨m, 0, none⟩), .int .i64 0, .int .i64 (S : Int)] w fun e w' => ∃ t, e = .returned (.tuple #[.pointer (some ⟨t, 0, none⟩), .int .i64 0]) ∧ TableAt w' t m cb K ∧ Fr [] w w' ∧ w.heap.size ≤ t := by
  have hlt := h.lt
  have hh := h
  have HK := Lib.hid hK
  clear hK
  go_enter Tryz.func160, Tryz.ntmps160
  go_wp2_with fail
  refine (mlen_len m cb S K _ h HK.out).mono ?_
  rintro e w1 ⟨rfl, rfl⟩
  go_wp2_with fail
  refine (mlen_len m cb S K _ h HK.out).mono ?_
  rintro e w1 ⟨rfl, rfl⟩
  go_wp2
  go_ret2
  have F : ∀ o, Fr [] w (w.alloc o) := fun o => (Fr.refl _ _).alloc o
  have hl := HK.out
  refine ⟨_, rfl, ⟨?_, hh.fr (F _) (by simp) (by simp), by omega, by omega, by omega, by omega⟩, F _, Nat.le_refl _⟩
  rw [hl]
  exact Blk.new w _ _

end Go.Proofs.YtiojnjihbidbiaaGreat
