/- Package bits, walked: the mixing function is some function of the number; a key's home lies inside the table; nodes and operations are packed into one number. -/
import Derived.Test.YtiojnjihbidbiaaGreatHeap
import Derived.Test.YtiojnjihbidbiaaGreatBddTable
import Derived.Test.YtiojnjihbidbiaaGreatProg
import Derived.OpenShut
namespace Go.Proofs.YtiojnjihbidbiaaGreat
open Go.RowKit


/-- One round of the mixing. -/
def mixR (x c : Int) : Int := IntKind.u64.wrap (bits BinOp.xor IntKind.u64 x (x / 8589934592) * c)
def mixF (x : Int) : Int :=
  bits BinOp.xor IntKind.u64 (mixR (mixR x 18397679294719823053) 14181476777654086739) (mixR (mixR x 18397679294719823053) 14181476777654086739 / 8589934592)

theorem mixF_bd (x : Int) : 0 ≤ mixF x ∧ mixF x < 18446744073709551616 := by
  have h := wf_bits BinOp.xor IntKind.u64 (mixR (mixR x 18397679294719823053) 14181476777654086739) (mixR (mixR x 18397679294719823053) 14181476777654086739 / 8589934592)
  simp only [Lit.wf, IntKind.min, IntKind.max, IntKind.signed, IntKind.bits, Bool.and_eq_true] at h
  unfold mixF
  constructor
  · simpa using h.1
  · have := h.2
    simp at this
    omega

theorem mix_any (x : Int) (w : World) :
    Calls Tryz.prog 261 #[.int .u64 x] w fun e w' => e = .returned (.int .u64 (mixF x)) ∧ w = w' := by
  have i0 : ∀ w, (Instr.index 322 (.agg #[.int .u64 18397679294719823053, .int .u64 14181476777654086739]) (.int .i64 0)).run Tryz.prog w = .ok (.int .u64 18397679294719823053) w := fun _ => by kernel_rfl
  have i1 : ∀ w, (Instr.index 322 (.agg #[.int .u64 18397679294719823053, .int .u64 14181476777654086739]) (.int .i64 1)).run Tryz.prog w = .ok (.int .u64 14181476777654086739) w := fun _ => by kernel_rfl
  go_enter Tryz.func261, Tryz.ntmps261
  go_wp2
  refine wp_loop_rounds 3 ?_
  rw [rounds_succ]
  go_wp2
  rw [rounds_succ]
  go_wp2
  rw [rounds_succ]
  go_wp2
  go_ret
  exact ⟨rfl, rfl⟩

/-- Where a key is looked for first among S slots. -/
def homeF (S k : Nat) : Nat := (mixF k).toNat % S
theorem homeF_lt {S : Nat} (h : 0 < S) (k : Nat) : homeF S k < S := Nat.mod_lt _ h

theorem home_any (x : Nat) (S : Int) (w : World) (hS : 1 ≤ S) (hS2 : S ≤ 2147483648) :
    Calls Tryz.prog 216 #[.int .u64 x, .int .i64 S] w fun e w' => e = .returned (.int .i64 (homeF S.toNat x : Nat)) ∧ w = w' := by
  obtain ⟨S, rfl⟩ := Int.eq_ofNat_of_zero_le (show 0 ≤ S by omega)
  have hm := (mixF_bd x).1
  have hlt := Int.emod_lt_of_pos (mixF x) (show (0 : Int) < S by omega)
  have hge := Int.emod_nonneg (mixF x) (show (S : Int) ≠ 0 by omega)
  go_enter Tryz.func216, Tryz.ntmps216
  go_wp2_with fail
  refine (mix_any _ _).mono ?_
  rintro e w' ⟨rfl, rfl⟩
  go_wp2
  go_ret
  refine ⟨ret_int ?_, rfl⟩
  obtain ⟨q, hq⟩ := Int.eq_ofNat_of_zero_le hm
  unfold homeF
  rw [hq, Int.toNat_natCast, Int.toNat_natCast]
  omega

theorem and28 (x : Nat) (h : x < 268435456) : bits BinOp.and IntKind.u32 (x : Int) 268435455 = (x : Int) := by
  have := u32_and_nat x 268435455 (by omega) (by omega)
  rw [show ((268435455 : Nat) : Int) = 268435455 from rfl] at this
  rw [this, show (268435455 : Nat) = 2 ^ 28 - 1 from rfl, Nat.and_two_pow_sub_one_eq_mod, Nat.mod_eq_of_lt (by omega)]

/-- Two numbers that share no bit: their 'or' is their sum. -/
theorem or_sum (i q y : Nat) (hq : q * 2 ^ i < 18446744073709551616) (hy : y < 2 ^ i) (hy2 : y < 18446744073709551616) {X Y : Int} (hX : X = (q * 2 ^ i : Nat)) (hY : Y = (y : Nat)) :
    bits BinOp.or IntKind.u64 X Y = ((q * 2 ^ i + y : Nat) : Int) := by
  subst hX hY
  rw [u64_or_nat _ _ hq hy2, Nat.mul_comm q, Nat.two_pow_add_eq_or_of_lt hy]

theorem node_any (l a b : Nat) (w : World) (hl : l < 256) (ha : a < 268435456) (hb : b < 268435456) :
    Calls Tryz.prog 215 #[.int .u8 (l : Int), .int .u32 (a : Int), .int .u32 (b : Int)] w fun e w' => e = .returned (.int .u64 (Bdd.keyN ⟨l, a, b⟩ : Nat)) ∧ w = w' := by
  have e1 := and28 a ha
  have e2 := and28 b hb
  go_enter Tryz.func215, Tryz.ntmps215
  go_wp2
  go_ret
  refine ⟨ret_int ?_, rfl⟩
  rw [or_sum 56 l (a * 268435456) (X := (l : Int) * 72057594037927936) (Y := (a : Int) * 268435456) (by omega) (by omega) (by omega) (by omega) (by omega), or_sum 28 (l * 2 ^ 28 + a) b (by omega) (by omega) (by omega) (by omega) rfl]
  unfold Bdd.keyN
  simp only []
  omega

theorem word_any (op m a b c : Nat) (w : World) (hl : op < 256) (hm : m < 256) (ha : a < 65536) (hb : b < 65536) (hc : c < 65536) :
    Calls Tryz.prog 254 #[.int .u8 (op : Int), .int .u8 (m : Int), .int .u32 (a : Int), .int .u32 (b : Int), .int .u32 (c : Int)] w fun e w' => e = .returned (.int .u64 (Bdd.wordN op m a b c : Nat)) ∧ w = w' := by
  go_enter Tryz.func254, Tryz.ntmps254
  go_wp2
  go_ret
  refine ⟨ret_int ?_, rfl⟩
  rw [or_sum 56 op (m * 2 ^ 48) (X := (op : Int) * 72057594037927936) (Y := (m : Int) * 281474976710656) (by omega) (by omega) (by omega) (by omega) (by omega),
    or_sum 48 (op * 2 ^ 8 + m) (a * 2 ^ 32) (Y := (a : Int) * 4294967296) (by omega) (by omega) (by omega) (by omega) (by omega),
    or_sum 32 (op * 2 ^ 24 + m * 2 ^ 16 + a) (b * 2 ^ 16) (Y := (b : Int) * 65536) (by omega) (by omega) (by omega) (by omega) (by omega),
    or_sum 16 (op * 2 ^ 40 + m * 2 ^ 32 + a * 2 ^ 16 + b) c (Y := (c : Int)) (by omega) (by omega) (by omega) (by omega) (by omega)]
  unfold Bdd.wordN
  omega

end Go.Proofs.YtiojnjihbidbiaaGreat
