/- Package bits, walked: the mixing function is some function of the number; a key's home lies inside the table; nodes and operations are packed into one number. -/
import Derived.Test.YtiojnjihbidbiaaGreatBaseA
import Derived.Test.YtiojnjihbidbiaaGreatProg
import Derived.OpenShut
import Derived.Deep.LoopGhost
import Derived.Lib.Hide
import Derived.Deep.RegionHeld3
import Derived.Deep.QuietTactic
import Derived.BigQuiet
import Derived.StillTailTactics
import Derived.Deep.DrawnRows
import Derived.Laws.EntriesVeiled
namespace Go.Proofs.YtiojnjihbidbiaaGreat
open Go.RowKit


/-- One round of the mixing. -/
def mixR (x c : Int) : Int := IntKind.u64.wrap (bits BinOp.xor IntKind.u64 x (x / 8589934592) * c)
def mixF (x : Int) : Int :=
  bits BinOp.xor IntKind.u64 (mixR (mixR x 18397679294719823053) 14181476777654086739) (mixR (mixR x 18397679294719823053) 14181476777654086739 / 8589934592)

theorem mixF_bd (x : Int) : 0 ≤ mixF x ∧ mixF x < 18446744073709551616 := by
  have h := wf_bits BinOp.xor IntKind.u64 (mixR (mixR x 18397679294719823053) 14181476777654086739) (mixR (mixR x 18397679294719823053) 14181476777654086739 / 8589934592)
  simp only [Lit.wf, IntKind.min, IntKind.max, IntKind.signed, IntKind.bits, Bool.and_eq_true] at h
  unfold mixF
  constructor
  · simpa using h.1
  · have := h.2
    simp at this
    omega

theorem mix_any (x : Int) (w : World) :
    Calls Tryz.prog 261 #[.int .u64 x] w fun e w' => e = .returned (.int .u64 (mixF x)) ∧ w = w' := by
  have i0 : ∀ w, (Instr.index 322 (.agg #[.int .u64 18397679294719823053, .int .u64 14181476777654086739]) (.int .i64 0)).run Tryz.prog w = .ok (.int .u64 18397679294719823053) w := fun _ => by kernel_rfl
  have i1 : ∀ w, (Instr.index 322 (.agg #[.int .u64 18397679294719823053, .int .u64 14181476777654086739]) (.int .i64 1)).run Tryz.prog w = .ok (.int .u64 14181476777654086739) w := fun _ => by kernel_rfl
  go_enter Tryz.func261, Tryz.ntmps261
  go_wp2
  refine wp_loop_rounds 3 ?_
  rw [rounds_succ]
  go_wp2
  rw [rounds_succ]
  go_wp2
  rw [rounds_succ]
  go_wp2
  go_ret
  exact ⟨rfl, rfl⟩

/-- Where a key is looked for first among S slots. -/
def homeF (S k : Nat) : Nat := (mixF k).toNat % S
theorem homeF_lt {S : Nat} (h : 0 < S) (k : Nat) : homeF S k < S := Nat.mod_lt _ h

theorem home_any (x : Nat) (S : Int) (w : World) (hS : 1 ≤ S) (hS2 : S ≤ 2147483648) :
    Calls Tryz.prog 216 #[.int .u64 x, .int .i64 S] w fun e w' => e = .returned (.int .i64 (homeF S.toNat x : Nat)) ∧ w = w' := by
  obtain ⟨S, rfl⟩ := Int.eq_ofNat_of_zero_le (show 0 ≤ S by omega)
  have hm := (mixF_bd x).1
  have hlt := Int.emod_lt_of_pos (mixF x) (show (0 : Int) < S by omega)
  have hge := Int.emod_nonneg (mixF x) (show (S : Int) ≠ 0 by omega)
  go_enter Tryz.func216, Tryz.ntmps216
  go_wp2_with fail
  refine (mix_any _ _).mono ?_
  rintro e w' ⟨rfl, rfl⟩
  go_wp2
  go_ret
  refine ⟨ret_int ?_, rfl⟩
  obtain ⟨q, hq⟩ := Int.eq_ofNat_of_zero_le hm
  unfold homeF
  rw [hq, Int.toNat_natCast, Int.toNat_natCast]
  omega

theorem and28 (x : Nat) (h : x < 268435456) : bits BinOp.and IntKind.u32 (x : Int) 268435455 = (x : Int) := by
  have := u32_and_nat x 268435455 (by omega) (by omega)
  rw [show ((268435455 : Nat) : Int) = 268435455 from rfl] at this
  rw [this, show (268435455 : Nat) = 2 ^ 28 - 1 from rfl, Nat.and_two_pow_sub_one_eq_mod, Nat.mod_eq_of_lt (by omega)]

/-- Two numbers that share no bit: their 'or' is their sum. -/
theorem or_sum (i q y : Nat) (hq : q * 2 ^ i < 18446744073709551616) (hy : y < 2 ^ i) (hy2 : y < 18446744073709551616) {X Y : Int} (hX : X = (q * 2 ^ i : Nat)) (hY : Y = (y : Nat)) :
    bits BinOp.or IntKind.u64 X Y = ((q * 2 ^ i + y : Nat) : Int) := by
  subst hX hY
  rw [u64_or_nat _ _ hq hy2, Nat.mul_comm q, Nat.two_pow_add_eq_or_of_lt hy]

theorem node_any (l a b : Nat) (w : World) (hl : l < 256) (ha : a < 268435456) (hb : b < 268435456) :
    Calls Tryz.prog 215 #[.int .u8 (l : Int), .int .u32 (a : Int), .int .u32 (b : Int)] w fun e w' => e = .returned (.int .u64 (Bdd.keyN ⟨l, a, b⟩ : Nat)) ∧ w = w' := by
  have e1 := and28 a ha
  have e2 := and28 b hb
  go_enter Tryz.func215, Tryz.ntmps215
  go_wp2
  go_ret
  refine ⟨ret_int ?_, rfl⟩
  rw [or_sum 56 l (a * 268435456) (X := (l : Int) * 72057594037927936) (Y := (a : Int) * 268435456) (by omega) (by omega) (by omega) (by omega) (by omega), or_sum 28 (l * 2 ^ 28 + a) b (by omega) (by omega) (by omega) (by omega) rfl]
  unfold Bdd.keyN
  simp only []
  omega

theorem word_any (op m a b c : Nat) (w : World) (hl : op < 256) (hm : m < 256) (ha : a < 65536) (hb : b < 65536) (hc : c < 65536) :
    Calls Tryz.prog 254 #[.int .u8 (op : Int), .int .u8 (m : Int), .int .u32 (a : Int), .int .u32 (b : Int), .int .u32 (c : Int)] w fun e w' => e = .returned (.int .u64 (Bdd.wordN op m a b c : Nat)) ∧ w = w' := by
  go_enter Tryz.func254, Tryz.ntmps254
  go_wp2
  go_ret
  refine ⟨ret_int ?_, rfl⟩
  rw [or_sum 56 op (m * 2 ^ 48) (X := (op : Int) * 72057594037927936) (Y := (m : Int) * 281474976710656) (by omega) (by omega) (by omega) (by omega) (by omega),
    or_sum 48 (op * 2 ^ 8 + m) (a * 2 ^ 32) (Y := (a : Int) * 4294967296) (by omega) (by omega) (by omega) (by omega) (by omega),
    or_sum 32 (op * 2 ^ 24 + m * 2 ^ 16 + a) (b * 2 ^ 16) (Y := (b : Int) * 65536) (by omega) (by omega) (by omega) (by omega) (by omega),
    or_sum 16 (op * 2 ^ 40 + m * 2 ^ 32 + a * 2 ^ 16 + b) c (Y := (c : Int)) (by omega) (by omega) (by omega) (by omega) (by omega)]
  unfold Bdd.wordN
  omega

end Go.Proofs.YtiojnjihbidbiaaGreat
/- Package mem, walked: cells of a memory are loaded, stored, compared and swapped; how often they were touched is counted. -/
namespace Go.Proofs.YtiojnjihbidbiaaGreat
open Go.RowKit

/-- m is a memory over the row cb, which holds the numbers K. -/
def MemAt (w : World) (m cb : Nat) (K : List Nat) : Prop :=
  ∃ a b : Int, Blk w m #[.slice (some ⟨cb, 0, none⟩) K.length K.length, .int .i64 a, .int .i64 b] 216 ∧ Blk w cb (ints .u64 K) 310 ∧ m ≠ cb

theorem MemAt.fr {O : List Nat} {w w' : World} {m cb : Nat} {K : List Nat} (h : MemAt w m cb K) (f : Fr O w w') (h1 : m ∉ O) (h2 : cb ∉ O) : MemAt w' m cb K := by
  obtain ⟨a, b, h0, h3, hne⟩ := h
  exact ⟨a, b, h0.fr f h1, h3.fr f h2, hne⟩
theorem MemAt.lt {w : World} {m cb : Nat} {K : List Nat} (h : MemAt w m cb K) : m < w.heap.size ∧ cb < w.heap.size := by
  obtain ⟨a, b, h0, h3, hne⟩ := h
  exact ⟨h0.lt, h3.lt⟩

theorem add_any (b o : Nat) (a d : Int) (w : World) (h : w.cell? ⟨b, o, none⟩ = some (.int .i64 a)) (hf : w.frozen? ⟨b, o, none⟩ = false) :
    Calls Tryz.prog 221 #[.pointer (some ⟨b, o, none⟩), .int .i64 d] w fun e w' => e = .returned (.int .i64 (wrap64 (a + d))) ∧ w.setCell ⟨b, o, none⟩ (.int .i64 (wrap64 (a + d))) = w' := by
  have hd := run_call_add (P := Tryz.prog) Tryz.func264 (by kernel_rfl) (by kernel_rfl) (by kernel_rfl) .i64 (by kernel_rfl) (y := d) h hf (s := wrap64 (a + d)) (by simp [go_sem, wrap64, IntKind.wrap_i64])
  go_enter Tryz.func221, Tryz.ntmps221
  go_wp2
  go_ret
  exact ⟨rfl, rfl⟩

theorem aload_any (b o : Nat) (a : Int) (w : World) (h : w.cell? ⟨b, o, none⟩ = some (.int .u64 a)) :
    Calls Tryz.prog 219 #[.pointer (some ⟨b, o, none⟩)] w fun e w' => e = .returned (.int .u64 a) ∧ w = w' := by
  have hd := run_call_load (P := Tryz.prog) Tryz.func262 (by kernel_rfl) (by kernel_rfl) (by kernel_rfl) .u64 (by kernel_rfl) h
  go_enter Tryz.func219, Tryz.ntmps219
  go_wp2
  go_ret
  exact ⟨rfl, rfl⟩

theorem astore_any (b o : Nat) (a v : Int) (w : World) (h : w.cell? ⟨b, o, none⟩ = some (.int .u64 a)) (hf : w.frozen? ⟨b, o, none⟩ = false) :
    Calls Tryz.prog 293 #[.pointer (some ⟨b, o, none⟩), .int .u64 v] w fun e w' => e = .returned (.tuple #[]) ∧ w.setCell ⟨b, o, none⟩ (.int .u64 v) = w' := by
  have hd := run_call_store (P := Tryz.prog) Tryz.func295 (by kernel_rfl) (by kernel_rfl) (by kernel_rfl) (by kernel_rfl) (k := .u64) (y := v) h hf
  go_enter Tryz.func293, Tryz.ntmps293
  go_wp2
  go_end0
  exact ⟨rfl, rfl⟩

theorem acas_hit (b o : Nat) (a v : Int) (w : World) (h : w.cell? ⟨b, o, none⟩ = some (.int .u64 a)) (hf : w.frozen? ⟨b, o, none⟩ = false) :
    Calls Tryz.prog 220 #[.pointer (some ⟨b, o, none⟩), .int .u64 a, .int .u64 v] w fun e w' => e = .returned (.bool true) ∧ w.setCell ⟨b, o, none⟩ (.int .u64 v) = w' := by
  have hd := run_call_cas_hit (P := Tryz.prog) Tryz.func263 (by kernel_rfl) (by kernel_rfl) (by kernel_rfl) .u64 (by kernel_rfl) (y := v) h hf
  go_enter Tryz.func220, Tryz.ntmps220
  go_wp2
  go_ret
  exact ⟨rfl, rfl⟩

theorem at_in (m cb S : Nat) (a i : Int) (w : World) (h0 : w.cell? ⟨m, 0, none⟩ = some (.slice (some ⟨cb, 0, none⟩) S S)) (h1 : w.cell? ⟨m, 1, none⟩ = some (.int .i64 a)) (hf : w.frozen? ⟨m, 1, none⟩ = false)
   (hi0 : 0 ≤ i) (hi : i < S) :
    Calls Tryz.prog 218 #[.pointer (some ⟨m, 0, none⟩), .int .i64 i] w fun e w' => e = .returned (.pointer (some ⟨cb, i.toNat, none⟩)) ∧ w.setCell ⟨m, 1, none⟩ (.int .i64 (wrap64 (a + 1))) = w' := by
  go_enter Tryz.func218, Tryz.ntmps218
  go_wp2_with fail
  refine (add_any _ _ _ _ _ h1 hf).mono ?_
  rintro e w' ⟨rfl, rfl⟩
  go_wp2
  go_ret
  exact ⟨rfl, rfl⟩

theorem load_any (m cb : Nat) (K : List Nat) (i : Int) (w : World) (h : MemAt w m cb K) (hi0 : 0 ≤ i) (hi : i < K.length) :
    Calls Tryz.prog 177 #[.pointer (some ⟨m, 0, none⟩), .int .i64 i] w fun e w' => e = .returned (.int .u64 (K0 K i.toNat : Nat)) ∧ MemAt w' m cb K ∧ Fr [m] w w' := by
  obtain ⟨a, b, hm, hc, hne⟩ := h
  have hi' : i.toNat < K.length := by omega
  have c0 := hm.cell 0 rfl
  have c1 := hm.cell 1 rfl
  have f1 := hm.free 1
  have hm2 := hm.set 1 (.int .i64 (wrap64 (a + 1)))
  have hc2 := hc.other (p := ⟨m, 1, none⟩) (.int .i64 (wrap64 (a + 1))) (Ne.symm hne)
  have cc := hc2.cell i.toNat (ints_get .u64 K i.toNat hi')
  have fr : Fr [m] w (w.setCell ⟨m, 1, none⟩ (.int .i64 (wrap64 (a + 1)))) := (Fr.refl _ _).setCell _ (.inl (by simp))
  go_enter Tryz.func177, Tryz.ntmps177
  go_wp2_with fail
  refine (at_in _ _ _ _ _ _ c0 c1 f1 hi0 hi).mono ?_
  rintro e w' ⟨rfl, rfl⟩
  go_wp2_with fail
  refine (aload_any _ _ _ _ cc).mono ?_
  rintro e w' ⟨rfl, rfl⟩
  go_wp2
  go_ret
  exact ⟨rfl, ⟨_, _, hm2, hc2, hne⟩, fr⟩

theorem store_any (m cb : Nat) (K : List Nat) (i : Int) (v : Nat) (w : World) (h : MemAt w m cb K) (hi0 : 0 ≤ i) (hi : i < K.length) :
    Calls Tryz.prog 289 #[.pointer (some ⟨m, 0, none⟩), .int .i64 i, .int .u64 (v : Int)] w fun e w' => e = .returned (.tuple #[]) ∧ MemAt w' m cb (K.set i.toNat v) ∧ Fr [m, cb] w w' := by
  obtain ⟨a, b, hm, hc, hne⟩ := h
  have hi' : i.toNat < K.length := by omega
  have c0 := hm.cell 0 rfl
  have c1 := hm.cell 1 rfl
  have f1 := hm.free 1
  have hm2 := hm.set 1 (.int .i64 (wrap64 (a + 1)))
  have hc2 := hc.other (p := ⟨m, 1, none⟩) (.int .i64 (wrap64 (a + 1))) (Ne.symm hne)
  have cc := hc2.cell i.toNat (ints_get .u64 K i.toNat hi')
  have fc := hc2.free i.toNat
  have hm3 := hm2.other (p := ⟨cb, i.toNat, none⟩) (.int .u64 (v : Int)) hne
  have hc3 := hc2.set i.toNat (.int .u64 (v : Int))
  have fr : Fr [m, cb] w ((w.setCell ⟨m, 1, none⟩ (.int .i64 (wrap64 (a + 1)))).setCell ⟨cb, i.toNat, none⟩ (.int .u64 (v : Int))) :=
    ((Fr.refl _ _).setCell _ (.inl (by simp))).setCell _ (.inl (by simp))
  rw [ints_set] at hc3
  go_enter Tryz.func289, Tryz.ntmps289
  go_wp2_with fail
  refine (at_in _ _ _ _ _ _ c0 c1 f1 hi0 hi).mono ?_
  rintro e w' ⟨rfl, rfl⟩
  go_wp2_with fail
  refine (astore_any _ _ _ _ _ cc fc).mono ?_
  rintro e w' ⟨rfl, rfl⟩
  go_wp2
  go_end0
  exact ⟨rfl, ⟨_, _, by rw [List.length_set]; exact hm3, hc3, hne⟩, fr⟩

/-- Where the cell holds what is expected. -/
theorem cas_hit (m cb : Nat) (K : List Nat) (i : Int) (o v : Nat) (w : World) (h : MemAt w m cb K) (hi0 : 0 ≤ i) (hi : i < K.length) (ho : K0 K i.toNat = o) :
    Calls Tryz.prog 178 #[.pointer (some ⟨m, 0, none⟩), .int .i64 i, .int .u64 (o : Int), .int .u64 (v : Int)] w fun e w' => e = .returned (.bool true) ∧ MemAt w' m cb (K.set i.toNat v) ∧ Fr [m, cb] w w' := by
  obtain ⟨a, b, hm, hc, hne⟩ := h
  have hi' : i.toNat < K.length := by omega
  have c0 := hm.cell 0 rfl
  have c1 := hm.cell 1 rfl
  have f1 := hm.free 1
  have hm2 := hm.set 1 (.int .i64 (wrap64 (a + 1)))
  have hc2 := hc.other (p := ⟨m, 1, none⟩) (.int .i64 (wrap64 (a + 1))) (Ne.symm hne)
  have cc := hc2.cell i.toNat (ints_get .u64 K i.toNat hi')
  rw [ho] at cc
  clear ho
  have fc := hc2.free i.toNat
  have hm3 := hm2.other (p := ⟨cb, i.toNat, none⟩) (.int .u64 (v : Int)) hne
  have hc3 := hc2.set i.toNat (.int .u64 (v : Int))
  have fr : Fr [m, cb] w ((w.setCell ⟨m, 1, none⟩ (.int .i64 (wrap64 (a + 1)))).setCell ⟨cb, i.toNat, none⟩ (.int .u64 (v : Int))) :=
    ((Fr.refl _ _).setCell _ (.inl (by simp))).setCell _ (.inl (by simp))
  rw [ints_set] at hc3
  go_enter Tryz.func178, Tryz.ntmps178
  go_wp2_with fail
  refine (at_in _ _ _ _ _ _ c0 c1 f1 hi0 hi).mono ?_
  rintro e w' ⟨rfl, rfl⟩
  go_wp2_with fail
  refine (acas_hit _ _ _ _ _ cc fc).mono ?_
  rintro e w' ⟨rfl, rfl⟩
  go_wp2
  go_ret
  exact ⟨rfl, ⟨_, _, by rw [List.length_set]; exact hm3, hc3, hne⟩, fr⟩

theorem mlen_any (m cb : Nat) (K : List Nat) (w : World) (h : MemAt w m cb K) :
    Calls Tryz.prog 159 #[.pointer (some ⟨m, 0, none⟩)] w fun e w' => e = .returned (.int .i64 (K.length : Nat)) ∧ w = w' := by
  obtain ⟨a, b, hm, hc, hne⟩ := h
  have c0 := hm.cell 0 rfl
  go_enter Tryz.func159, Tryz.ntmps159
  go_wp2
  go_ret
  exact ⟨rfl, rfl⟩

theorem Tryz.info_u64 : (Tryz.prog.info? 310).map (fun i => (i.zero, i.size, i.bytes)) = some (some (.agg #[.int .u64 0]), 1, 8) := by kernel_rfl

/-- A slice of zeros made. -/
theorem run_make_zeros {P : Program} (w : World) (t e : TypeId) (z : Value) (b : Nat) (k : IntKind) (ht : P.underlying t = some (.slice e)) (hi : (P.info? e).map (fun i => (i.zero, i.size, i.bytes)) = some (some z, 1, b))
    (hz : z.cells = #[.int k 0]) (n : Nat) (hb : b * n ≤ 281474976710656) (hn : n ≤ 262144) :
    (Instr.makeSlice t (.int .i64 (n : Int)) (.int .i64 (n : Int))).run P w = .ok (.slice (some ⟨w.heap.size, 0, none⟩) n n) (w.alloc (.cells (ints k (List.replicate n 0)) e)) := by
  obtain ⟨i, h1, h2, h3, h4⟩ := info_parts hi
  have := run_make (P := P) w t e i z ht h1 h2 .i64 .i64 (n : Int) (n : Int) (by omega) (by omega) (by rw [h4]; omega) (by omega)
  rw [this, h3, hz, Int.toNat_natCast, Nat.mul_one]
  congr 3
  apply Array.ext'
  rw [toList_madeCells_one]
  simp [ints]

theorem mnew_any (n : Nat) (w : World) (hn : n ≤ 262144) :
    Calls Tryz.prog 94 #[.int .i64 (n : Int)] w fun e w' => ∃ m cb, e = .returned (.pointer (some ⟨m, 0, none⟩)) ∧ MemAt w' m cb (List.replicate n 0) ∧ Fr [] w w' ∧ w.heap.size ≤ m ∧ w.heap.size ≤ cb := by
  have hmk := run_make_zeros (P := Tryz.prog) w 209 310 (.agg #[.int .u64 0]) 8 .u64 Tryz.underlying209 Tryz.info_u64 rfl n (by omega) hn
  go_enter Tryz.func94, Tryz.ntmps94
  go_wp2
  go_ret
  refine ⟨_, _, rfl, ⟨0, 0, ?_, (Blk.new w _ _).alloc _, ?_⟩, ((Fr.refl _ _).alloc _).alloc _, ?_, Nat.le_refl _⟩
  · have := Blk.new (w.alloc (.cells (ints .u64 (List.replicate n 0)) 310)) #[.slice (some ⟨w.heap.size, 0, none⟩) n n, .int .i64 0, .int .i64 0] 216
    simpa using this
  · simp
  · simp
end Go.Proofs.YtiojnjihbidbiaaGreat
/- Package utable, walked: a finder that looks for a key which the table does not hold lays it into the first empty slot from the key's home on. -/
namespace Go.Proofs.YtiojnjihbidbiaaGreat
open Go.RowKit
attribute [local go_sem ↓] Go.wp_at_zero Go.wp_at_succ
set_option linter.unusedVariables false

/-- t is a table of all slots of the memory m. -/
def TableAt (w : World) (t m cb : Nat) (K : List Nat) : Prop :=
  Blk w t #[.pointer (some ⟨m, 0, none⟩), .int .i64 0, .int .i64 (K.length : Nat)] 264 ∧ MemAt w m cb K ∧ t ≠ m ∧ t ≠ cb ∧ 1 ≤ K.length ∧ K.length ≤ 262144

theorem TableAt.fr {O : List Nat} {w w' : World} {t m cb : Nat} {K : List Nat} (h : TableAt w t m cb K) (f : Fr O w w') (h0 : t ∉ O) (h1 : m ∉ O) (h2 : cb ∉ O) : TableAt w' t m cb K :=
  ⟨h.1.fr f h0, h.2.1.fr f h1 h2, h.2.2⟩
theorem TableAt.lt {w : World} {t m cb : Nat} {K : List Nat} (h : TableAt w t m cb K) : t < w.heap.size ∧ m < w.heap.size ∧ cb < w.heap.size := ⟨h.1.lt, h.2.1.lt⟩

abbrev looksV (f : Nat) : Value := .func (.func 273) #[.pointer (some ⟨f, 0, none⟩)] #[]
abbrev claimsV (f : Nat) : Value := .func (.func 279) #[.pointer (some ⟨f, 0, none⟩)] #[]

/-- A finder's cells. -/
def fcells (t : Nat) (key : Nat) (at_ left : Nat) (next : Value) (done : Bool) (slot e : Int) (made : Bool) : Array Value :=
  #[.pointer (some ⟨t, 0, none⟩), .int .u64 (key : Int), .int .i64 (at_ : Int), .int .i64 (left : Int), next, .bool done, .int .i64 slot, .int .i64 e, .bool made]

theorem slots_any (t m cb : Nat) (K : List Nat) (w : World) (h : TableAt w t m cb K) :
    Calls Tryz.prog 175 #[.pointer (some ⟨t, 0, none⟩)] w fun e w' => e = .returned (.int .i64 (K.length : Nat)) ∧ w = w' := by
  obtain ⟨ht, _, _⟩ := h
  have c2 := ht.cell 2 rfl
  go_enter Tryz.func175, Tryz.ntmps175
  go_wp2
  go_ret
  exact ⟨rfl, rfl⟩

theorem tat_any (t m cb : Nat) (K : List Nat) (s : Int) (w : World) (h : TableAt w t m cb K) (h0 : 0 ≤ s) (h1 : s < K.length) :
    Calls Tryz.prog 217 #[.pointer (some ⟨t, 0, none⟩), .int .i64 s] w fun e w' => e = .returned (.int .u64 (K0 K s.toNat : Nat)) ∧ TableAt w' t m cb K ∧ Fr [m] w w' := by
  have hT := h
  obtain ⟨ht, hm, hne, hne2, hl1, hl2⟩ := h
  have c0 := ht.cell 0 rfl
  have c1 := ht.cell 1 rfl
  have c2 := ht.cell 2 rfl
  have hw : IntKind.i64.wrap s = s := IntWalk.i64_in _ (by omega)
  go_enter Tryz.func217, Tryz.ntmps217
  go_wp2_with fail
  go_region_held3 (fun w' => w'.cell? ⟨t, 0, none⟩ = some (.pointer (some ⟨m, 0, none⟩)) ∧ w'.cell? ⟨t, 1, none⟩ = some (.int .i64 0)) (go_keep)
    ((go_at_call 177; refine (load_any m cb K _ _ (by exact hm) (by omega) (by omega)).mono ?_; rintro e w1 ⟨rfl, hm2, hF⟩; have ht2 := ht.drew.fr hF (by simp [hne]); have k0 := ht2.cell 0 rfl; have k1 := ht2.cell 1 rfl))
  go_wp2
  go_ret
  exact ⟨rfl, ⟨ht2, hm2, hne, hne2, hl1, hl2⟩, hF.undrew⟩

theorem ends_any (f : Nat) (cs : Array Value) (slot e : Int) (w : World) (h : Blk w f cs 319) (h9 : cs.size = 9) :
    Calls Tryz.prog 278 #[.pointer (some ⟨f, 0, none⟩), .int .i64 slot, .int .i64 e] w fun x w' => x = .returned (.tuple #[]) ∧
      Blk w' f (((cs.setIfInBounds 5 (.bool true)).setIfInBounds 6 (.int .i64 slot)).setIfInBounds 7 (.int .i64 e)) 319 ∧ Fr [f] w w' := by
  obtain ⟨v5, hv5⟩ : ∃ v, cs[5]? = some v := ⟨cs[5], by simp⟩
  obtain ⟨v6, hv6⟩ : ∃ v, cs[6]? = some v := ⟨cs[6], by simp⟩
  obtain ⟨v7, hv7⟩ : ∃ v, cs[7]? = some v := ⟨cs[7], by simp⟩
  have c5 := h.cell 5 hv5
  have c6 := h.cell 6 hv6
  have c7 := h.cell 7 hv7
  have f5 := h.free 5
  have f6 := h.free 6
  have f7 := h.free 7
  have B := ((h.set 5 (.bool true)).set 6 (.int .i64 slot)).set 7 (.int .i64 e)
  have F : Fr [f] w (((w.setCell ⟨f, 5, none⟩ (.bool true)).setCell ⟨f, 6, none⟩ (.int .i64 slot)).setCell ⟨f, 7, none⟩ (.int .i64 e)) :=
    (((Fr.refl _ _).setCell _ (.inl (by simp))).setCell _ (.inl (by simp))).setCell _ (.inl (by simp))
  clear hv5 hv6 hv7 h9
  go_enter Tryz.func278, Tryz.ntmps278
  go_wp2
  go_end0
  exact ⟨rfl, B, F⟩

theorem goes_any (f t m cb : Nat) (K : List Nat) (key a left : Nat) (nx : Value) (made : Bool) (w : World) (h : Blk w f (fcells t key a left nx false (-1) 61 made) 319) (hT : TableAt w t m cb K) (hft : f ≠ t)
    (ha : a < K.length) (hl : 2 ≤ left) (hl2 : left ≤ K.length) :
    Calls Tryz.prog 280 #[.pointer (some ⟨f, 0, none⟩)] w fun e w' => e = .returned (.tuple #[]) ∧
      Blk w' f (fcells t key ((a + 1) % K.length) (left - 1) nx false (-1) 61 made) 319 ∧ Fr [f] w w' := by
  obtain ⟨ht, hm, hne, hne2, hl1, hl3⟩ := hT
  have B := (h.set 2 (.int .i64 (((a : Int) + 1) % (K.length : Int)))).set 3 (.int .i64 ((left : Int) - 1))
  have F : Fr [f] w ((w.setCell ⟨f, 2, none⟩ (.int .i64 (((a : Int) + 1) % (K.length : Int)))).setCell ⟨f, 3, none⟩ (.int .i64 ((left : Int) - 1))) :=
    ((Fr.refl _ _).setCell _ (.inl (by simp))).setCell _ (.inl (by simp))
  have B' : Blk ((w.setCell ⟨f, 2, none⟩ (.int .i64 (((a : Int) + 1) % (K.length : Int)))).setCell ⟨f, 3, none⟩ (.int .i64 ((left : Int) - 1))) f
      (fcells t key ((a + 1) % K.length) (left - 1) nx false (-1) 61 made) 319 := by
    have e1 : (((a + 1) % K.length : Nat) : Int) = ((a : Int) + 1) % (K.length : Int) := by simp
    have e2 : ((left - 1 : Nat) : Int) = (left : Int) - 1 := by omega
    unfold fcells
    rw [e1, e2]
    exact B
  clear B
  unfold fcells at h
  have c0 := h.cell 0 rfl
  have c2 := h.cell 2 rfl
  have c3 := h.cell 3 rfl
  have f2 := h.free 2
  have f3 := h.free 3
  have t2 := ht.cell 2 rfl
  have hz : ¬ (K.length : Int) = 0 := by omega
  have hw : IntKind.i64.wrap ((a : Int) + 1) = (a : Int) + 1 := IntWalk.i64_in _ (by omega)
  go_enter Tryz.func280, Tryz.ntmps280
  go_wp2_with fail
  go_region
  go_wp2
  go_end0
  exact ⟨rfl, B'.drew, F.drew⟩

/-- The slot that is looked at holds another key. -/
theorem looks_other (f t m cb : Nat) (K : List Nat) (key a left : Nat) (made : Bool) (w : World) (h : Blk w f (fcells t key a left (looksV f) false (-1) 61 made) 319) (hT : TableAt w t m cb K)
    (hf : f ≠ t ∧ f ≠ m ∧ f ≠ cb) (ha : a < K.length) (hl : 2 ≤ left) (hl2 : left ≤ K.length) (hz : K0 K a ≠ 0) (hk : K0 K a ≠ key) :
    Calls Tryz.prog 273 #[.pointer (some ⟨f, 0, none⟩)] w fun e w' => e = .returned (.tuple #[]) ∧
      Blk w' f (fcells t key ((a + 1) % K.length) (left - 1) (looksV f) false (-1) 61 made) 319 ∧ TableAt w' t m cb K ∧ Fr [f, m] w w' := by
  have hTT := hT
  obtain ⟨ht, hm, hne, hne2, hl1, hl3⟩ := hT
  have h' := h
  unfold fcells at h
  have c0 := h.cell 0 rfl
  have c1 := h.cell 1 rfl
  have c2 := h.cell 2 rfl
  have t0 := ht.cell 0 rfl
  have t1 := ht.cell 1 rfl
  have hw : IntKind.i64.wrap (a : Int) = (a : Int) := IntWalk.i64_in _ (by omega)
  have hz' := ne_test0 hz
  have hk' := ne_test hk
  go_enter Tryz.func273, Tryz.ntmps273
  go_wp2_with fail
  go_region_held3 (fun w' => w'.cell? ⟨f, 0, none⟩ = some (.pointer (some ⟨t, 0, none⟩)) ∧ w'.cell? ⟨f, 2, none⟩ = some (.int .i64 (a : Int)) ∧ w'.cell? ⟨t, 0, none⟩ = some (.pointer (some ⟨m, 0, none⟩)) ∧ w'.cell? ⟨t, 1, none⟩ = some (.int .i64 0)) (go_keep)
    ((go_at_call 177; refine (load_any m cb K _ _ (by exact hm) (by omega) (by omega)).mono ?_; rintro e w1 ⟨rfl, hm2, hF⟩; have ht2 := ht.drew.fr hF (by simp [hne]); have hf2 := h.drew.fr hF (by simp [hf]); have k0 := ht2.cell 0 rfl; have k1 := ht2.cell 1 rfl; have k2 := hf2.cell 0 rfl; have k3 := hf2.cell 2 rfl; have k4 := hf2.cell 1 rfl))
  have hT1 : TableAt w1 t m cb K := ⟨ht2, hm2, hne, hne2, hl1, hl3⟩
  have hfb := h'.drew.fr hF (by simp [hf])
  clear c0 c1 c2 t0 t1
  go_wp2_with fail
  refine (goes_any f t m cb K key a left _ _ _ hfb hT1 hf.1 ha hl hl2).mono ?_
  rintro e w2 ⟨rfl, hB, hF2⟩
  go_wp2
  go_end0
  exact ⟨rfl, hB, hT1.fr hF2 (by simp; omega) (by simp; omega) (by simp; omega), (hF.undrew.mono (by simp)).trans hF2 (by simp)⟩

/-- The slot that is looked at is empty. -/
theorem looks_zero (f t m cb : Nat) (K : List Nat) (key a left : Nat) (made : Bool) (w : World) (h : Blk w f (fcells t key a left (looksV f) false (-1) 61 made) 319) (hT : TableAt w t m cb K)
    (hf : f ≠ t ∧ f ≠ m ∧ f ≠ cb) (ha : a < K.length) (hz : K0 K a = 0) (hk : key ≠ 0) :
    Calls Tryz.prog 273 #[.pointer (some ⟨f, 0, none⟩)] w fun e w' => e = .returned (.tuple #[]) ∧
      Blk w' f (fcells t key a left (claimsV f) false (-1) 61 made) 319 ∧ TableAt w' t m cb K ∧ Fr [f, m] w w' := by
  have hTT := hT
  obtain ⟨ht, hm, hne, hne2, hl1, hl3⟩ := hT
  have h' := h
  unfold fcells at h
  have c0 := h.cell 0 rfl
  have c1 := h.cell 1 rfl
  have c2 := h.cell 2 rfl
  have t0 := ht.cell 0 rfl
  have t1 := ht.cell 1 rfl
  have hw : IntKind.i64.wrap (a : Int) = (a : Int) := IntWalk.i64_in _ (by omega)
  have hk' : ((K0 K a : Int) == (key : Int)) = false := by rw [beq_eq_false_iff_ne]; omega
  have hz' : ((K0 K a : Int) == 0) = true := by rw [beq_iff_eq]; omega
  clear hz
  go_enter Tryz.func273, Tryz.ntmps273
  go_wp2_with fail
  go_region_held3 (fun w' => w'.cell? ⟨f, 0, none⟩ = some (.pointer (some ⟨t, 0, none⟩)) ∧ w'.cell? ⟨f, 2, none⟩ = some (.int .i64 (a : Int)) ∧ w'.cell? ⟨t, 0, none⟩ = some (.pointer (some ⟨m, 0, none⟩)) ∧ w'.cell? ⟨t, 1, none⟩ = some (.int .i64 0)) (go_keep)
    ((go_at_call 177; refine (load_any m cb K _ _ (by exact hm) (by omega) (by omega)).mono ?_; rintro e w1 ⟨rfl, hm2, hF⟩; have ht2 := ht.drew.fr hF (by simp [hne]); have hf2 := h.drew.fr hF (by simp [hf]); have k0 := ht2.cell 0 rfl; have k1 := ht2.cell 1 rfl; have k2 := hf2.cell 0 rfl; have k3 := hf2.cell 2 rfl; have k4 := hf2.cell 1 rfl; have k5 := hf2.cell 4 rfl; have f4 := hf2.free 4))
  have hT1 : TableAt w1 t m cb K := ⟨ht2, hm2, hne, hne2, hl1, hl3⟩
  have B := hf2.set 4 (claimsV f)
  have F : Fr [f] w1 (w1.setCell ⟨f, 4, none⟩ (claimsV f)) := (Fr.refl _ _).setCell _ (.inl (by simp))
  clear c0 c1 c2 t0 t1
  go_wp2
  go_end0
  exact ⟨rfl, B, hT1.fr F (by simp; omega) (by simp; omega) (by simp; omega), (hF.undrew.mono (by simp)).trans F (by simp)⟩

end Go.Proofs.YtiojnjihbidbiaaGreat
/- Package utable, walked, its second part: a finder's steps, and the finder driven to its end. -/
namespace Go.Proofs.YtiojnjihbidbiaaGreat
open Go.RowKit
attribute [local go_sem ↓] Go.wp_at_zero Go.wp_at_succ
set_option linter.unusedVariables false

/-- The key is laid into the empty slot. -/
theorem claims_hit (f t m cb : Nat) (K : List Nat) (key a left : Nat) (w : World) (h : Blk w f (fcells t key a left (claimsV f) false (-1) 61 false) 319) (hT : TableAt w t m cb K)
    (hf : f ≠ t ∧ f ≠ m ∧ f ≠ cb) (ha : a < K.length) (hz : K0 K a = 0) :
    Calls Tryz.prog 279 #[.pointer (some ⟨f, 0, none⟩)] w fun e w' => e = .returned (.tuple #[]) ∧
      Blk w' f (fcells t key a left (looksV f) true (a : Int) 0 true) 319 ∧ TableAt w' t m cb (K.set a key) ∧ Fr [f, m, cb] w w' := by
  have hTT := hT
  obtain ⟨ht, hm, hne, hne2, hl1, hl3⟩ := hT
  unfold fcells at h
  have c0 := h.cell 0 rfl
  have c1 := h.cell 1 rfl
  have c2 := h.cell 2 rfl
  have c4 := h.cell 4 rfl
  have f4 := h.free 4
  have t0 := ht.cell 0 rfl
  have t1 := ht.cell 1 rfl
  have hw : IntKind.i64.wrap (a : Int) = (a : Int) := IntWalk.i64_in _ (by omega)
  have h2 := h.set 4 (looksV f)
  have F1 : Fr [f] w (w.setCell ⟨f, 4, none⟩ (looksV f)) := (Fr.refl _ _).setCell _ (.inl (by simp))
  have d0 := h2.cell 0 rfl
  have d1 := h2.cell 1 rfl
  have d2 := h2.cell 2 rfl
  have ht2 := ht.fr F1 (by simp; omega)
  have d3 := ht2.cell 0 rfl
  have d4 := ht2.cell 1 rfl
  have hm2 := hm.fr F1 (by simp; omega) (by simp; omega)
  go_enter Tryz.func279, Tryz.ntmps279
  go_wp2_with fail
  go_region_held3 (fun w' => w'.cell? ⟨f, 0, none⟩ = some (.pointer (some ⟨t, 0, none⟩)) ∧ w'.cell? ⟨f, 1, none⟩ = some (.int .u64 (key : Int)) ∧ w'.cell? ⟨f, 2, none⟩ = some (.int .i64 (a : Int)) ∧ w'.cell? ⟨t, 0, none⟩ = some (.pointer (some ⟨m, 0, none⟩)) ∧ w'.cell? ⟨t, 1, none⟩ = some (.int .i64 0)) (go_keep)
    ((go_at_call 178; refine (cas_hit m cb K _ 0 key _ (by exact hm2) (by omega) (by omega) (by simpa using hz)).mono ?_; rintro e w1 ⟨rfl, hm3, hF⟩; have ht3 := ht2.drew.fr hF (by simp [hne, hne2]); have hf3 := h2.drew.fr hF (by simp [hf]); have k0 := ht3.cell 0 rfl; have k1 := ht3.cell 1 rfl; have k2 := hf3.cell 0 rfl; have k3 := hf3.cell 2 rfl; have k4 := hf3.cell 1 rfl; have k5 := hf3.cell 8 rfl; have f8 := hf3.free 8))
  have h4 := hf3.set 8 (.bool true)
  have F2 : Fr [f] w1 (w1.setCell ⟨f, 8, none⟩ (.bool true)) := (Fr.refl _ _).setCell _ (.inl (by simp))
  clear c0 c1 c2 t0 t1
  have ht4 := ht3.fr F2 (by simp; omega)
  have hm4 := hm3.fr F2 (by simp; omega) (by simp; omega)
  have k6 := h4.cell 2 rfl
  have k7 := h4.cell 5 rfl
  have k8 := h4.cell 6 rfl
  go_wp2_with fail
  refine (ends_any f _ _ _ _ h4 rfl).mono ?_
  rintro e w2 ⟨rfl, hB, hF2⟩
  go_wp2
  go_end0
  refine ⟨rfl, hB, ?_, ?_⟩
  · exact ⟨by rw [List.length_set]; exact ht4.fr hF2 (by simp; omega), (hm4.fr hF2 (by simp; omega) (by simp; omega)), hne, hne2, by rw [List.length_set]; exact hl1, by rw [List.length_set]; exact hl3⟩
  · exact (((F1.mono (by simp)).trans hF.undrew (by simp)).trans F2 (by simp)).trans hF2 (by simp)

theorem step_other (f t m cb : Nat) (K : List Nat) (key a left : Nat) (made : Bool) (w : World) (h : Blk w f (fcells t key a left (looksV f) false (-1) 61 made) 319) (hT : TableAt w t m cb K)
    (hf : f ≠ t ∧ f ≠ m ∧ f ≠ cb) (ha : a < K.length) (hl : 2 ≤ left) (hl2 : left ≤ K.length) (hz : K0 K a ≠ 0) (hk : K0 K a ≠ key) :
    Calls Tryz.prog 250 #[.pointer (some ⟨f, 0, none⟩)] w fun e w' => e = .returned (.bool false) ∧
      Blk w' f (fcells t key ((a + 1) % K.length) (left - 1) (looksV f) false (-1) 61 made) 319 ∧ TableAt w' t m cb K ∧ Fr [f, m] w w' := by
  have h' := h
  unfold fcells at h
  have c4 := h.cell 4 rfl
  have c5 := h.cell 5 rfl
  go_enter Tryz.func250, Tryz.ntmps250
  go_wp2_with fail
  refine (looks_other f t m cb K key a left made _ h' hT hf ha hl hl2 hz hk).mono ?_
  rintro e w1 ⟨rfl, hB, hT1, hF⟩
  have hB' := hB
  unfold fcells at hB
  have c5' := hB.cell 5 rfl
  go_wp2
  go_ret
  exact ⟨rfl, hB', hT1, hF⟩

theorem step_zero (f t m cb : Nat) (K : List Nat) (key a left : Nat) (made : Bool) (w : World) (h : Blk w f (fcells t key a left (looksV f) false (-1) 61 made) 319) (hT : TableAt w t m cb K)
    (hf : f ≠ t ∧ f ≠ m ∧ f ≠ cb) (ha : a < K.length) (hz : K0 K a = 0) (hk : key ≠ 0) :
    Calls Tryz.prog 250 #[.pointer (some ⟨f, 0, none⟩)] w fun e w' => e = .returned (.bool false) ∧
      Blk w' f (fcells t key a left (claimsV f) false (-1) 61 made) 319 ∧ TableAt w' t m cb K ∧ Fr [f, m] w w' := by
  have h' := h
  unfold fcells at h
  have c4 := h.cell 4 rfl
  have c5 := h.cell 5 rfl
  have HZ := Lib.hid hz
  clear hz
  go_enter Tryz.func250, Tryz.ntmps250
  go_wp2_with fail
  refine (looks_zero f t m cb K key a left made _ h' hT hf ha HZ.out hk).mono ?_
  rintro e w1 ⟨rfl, hB, hT1, hF⟩
  have hB' := hB
  unfold fcells at hB
  have c5' := hB.cell 5 rfl
  go_wp2
  go_ret
  exact ⟨rfl, hB', hT1, hF⟩

theorem step_claims (f t m cb : Nat) (K : List Nat) (key a left : Nat) (w : World) (h : Blk w f (fcells t key a left (claimsV f) false (-1) 61 false) 319) (hT : TableAt w t m cb K)
    (hf : f ≠ t ∧ f ≠ m ∧ f ≠ cb) (ha : a < K.length) (hz : K0 K a = 0) :
    Calls Tryz.prog 250 #[.pointer (some ⟨f, 0, none⟩)] w fun e w' => e = .returned (.bool true) ∧
      Blk w' f (fcells t key a left (looksV f) true (a : Int) 0 true) 319 ∧ TableAt w' t m cb (K.set a key) ∧ Fr [f, m, cb] w w' := by
  have h' := h
  unfold fcells at h
  have c4 := h.cell 4 rfl
  have c5 := h.cell 5 rfl
  have HZ := Lib.hid hz
  clear hz
  go_enter Tryz.func250, Tryz.ntmps250
  go_wp2_with fail
  refine (claims_hit f t m cb K key a left _ h' hT hf ha HZ.out).mono ?_
  rintro e w1 ⟨rfl, hB, hT1, hF⟩
  have hB' := hB
  unfold fcells at hB
  have c5' := hB.cell 5 rfl
  go_wp2
  go_ret
  exact ⟨rfl, hB', hT1, hF⟩

theorem slot_any (f : Nat) (t key a left : Nat) (nx : Value) (d mk : Bool) (sl e : Int) (w : World) (h : Blk w f (fcells t key a left nx d sl e mk) 319) :
    Calls Tryz.prog 251 #[.pointer (some ⟨f, 0, none⟩)] w fun x w' => x = .returned (.tuple #[.int .i64 sl, .int .i64 e]) ∧ Blk w' f (fcells t key a left nx d sl e mk) 319 ∧ Fr [] w w' := by
  have h' := h
  unfold fcells at h
  have c6 := h.cell 6 rfl
  have c7 := h.cell 7 rfl
  go_enter Tryz.func251, Tryz.ntmps251
  go_wp2_with fail
  go_quiet (fail)
  go_wp2
  go_ret2
  exact ⟨rfl, h'.drewN _, (Fr.refl _ _).drewN _⟩

theorem made_any (f : Nat) (t key a left : Nat) (nx : Value) (d mk : Bool) (sl e : Int) (w : World) (h : Blk w f (fcells t key a left nx d sl e mk) 319) :
    Calls Tryz.prog 252 #[.pointer (some ⟨f, 0, none⟩)] w fun x w' => x = .returned (.bool mk) ∧ w = w' := by
  unfold fcells at h
  have c8 := h.cell 8 rfl
  go_enter Tryz.func252, Tryz.ntmps252
  go_wp2
  go_ret
  exact ⟨rfl, rfl⟩

end Go.Proofs.YtiojnjihbidbiaaGreat
/- Package utable, walked, its third part: a finder begun; a finder driven to its end lays a new key into the first empty slot. -/
namespace Go.Proofs.YtiojnjihbidbiaaGreat
open Go.RowKit
attribute [local go_sem ↓] Go.wp_at_zero Go.wp_at_succ
set_option linter.unusedVariables false

theorem find_any (t m cb : Nat) (K : List Nat) (key : Nat) (w : World) (hT : TableAt w t m cb K) (hk : key ≠ 0) :
    Calls Tryz.prog 249 #[.pointer (some ⟨t, 0, none⟩), .int .u64 (key : Int)] w fun e w' => ∃ f, e = .returned (.pointer (some ⟨f, 0, none⟩)) ∧
      Blk w' f (fcells t key (homeF K.length key) K.length (looksV f) false (-1) 61 false) 319 ∧ TableAt w' t m cb K ∧ Fr [] w w' ∧ w.heap.size ≤ f := by
  have hTT := hT
  obtain ⟨ht, hm, hne, hne2, hl1, hl3⟩ := hT
  have t2 := ht.cell 2 rfl
  have hk' : ((key : Int) == 0) = false := ne_test0 hk
  go_enter Tryz.func249, Tryz.ntmps249
  go_wp2_with fail
  go_region_held3 (fun w' => w'.cell? ⟨t, 2, none⟩ = some (.int .i64 (K.length : Nat))) (go_keep)
    ((go_at_call 216; refine (home_any key _ _ (by omega) (by omega)).mono ?_; rintro e w1 ⟨rfl, rfl⟩))
  go_wp2
  go_ret
  refine ⟨_, rfl, (Blk.new w _ _).drew, ?_, ?_, Nat.le_refl _⟩
  · exact TableAt.fr hTT (((Fr.refl [] w).alloc _).drew) (by simp) (by simp) (by simp)
  · exact ((Fr.refl [] w).alloc _).drew

/-- Between two steps of a finder for a key that is nowhere in the table: j: how far the first empty slot lies from the key's home. -/
def FindRel (t m cb f : Nat) (K : List Nat) (key j : Nat) (w0 : World) (k : Nat) (wr : World) : Prop :=
  TableAt wr t m cb K ∧ Fr [m, cb] w0 wr ∧
  ((∃ i, i ≤ j ∧ k = (j - i) + 2 ∧ Blk wr f (fcells t key ((homeF K.length key + i) % K.length) (K.length - i) (looksV f) false (-1) 61 false) 319) ∨
   (k = 1 ∧ Blk wr f (fcells t key ((homeF K.length key + j) % K.length) (K.length - j) (claimsV f) false (-1) 61 false) 319))

theorem FindRel.start {t m cb f : Nat} {K : List Nat} {key j : Nat} {w0 wr : World} (hS : 0 < K.length) (hT : TableAt wr t m cb K) (hF : Fr [] w0 wr)
    (hB : Blk wr f (fcells t key (homeF K.length key) K.length (looksV f) false (-1) 61 false) 319) : FindRel t m cb f K key j w0 (j + 2) wr := by
  refine ⟨hT, hF.mono (by simp), .inl ⟨0, by omega, by omega, ?_⟩⟩
  rw [Nat.add_zero, Nat.mod_eq_of_lt (homeF_lt hS key)]
  exact hB

theorem FindRel.more {t m cb f : Nat} {K : List Nat} {key j i : Nat} {w0 wr w2 : World} (hi : i < j) (hj : j < K.length) (hF : Fr [m, cb] w0 wr) (hf : w0.heap.size ≤ f)
    (hB : Blk w2 f (fcells t key (((homeF K.length key + i) % K.length + 1) % K.length) (K.length - i - 1) (looksV f) false (-1) 61 false) 319) (hT : TableAt w2 t m cb K) (hF2 : Fr [f, m] wr w2) :
    FindRel t m cb f K key j w0 (j - i - 1 + 2) w2 := by
  refine ⟨hT, hF.trans hF2 (by simp; omega), .inl ⟨i + 1, by omega, by omega, ?_⟩⟩
  rw [show homeF K.length key + (i + 1) = (homeF K.length key + i) + 1 by omega, ← Nat.mod_add_mod]
  exact hB

theorem FindRel.zero {t m cb f : Nat} {K : List Nat} {key j : Nat} {w0 wr w2 : World} (hF : Fr [m, cb] w0 wr) (hf : w0.heap.size ≤ f)
    (hB : Blk w2 f (fcells t key ((homeF K.length key + j) % K.length) (K.length - j) (claimsV f) false (-1) 61 false) 319) (hT : TableAt w2 t m cb K) (hF2 : Fr [f, m] wr w2) :
    FindRel t m cb f K key j w0 1 w2 :=
  ⟨hT, hF.trans hF2 (by simp; omega), .inr ⟨rfl, hB⟩⟩

set_option maxHeartbeats 400000 in
theorem finds_new (s t m cb : Nat) (K : List Nat) (key j : Nat) (w : World) (c4 : w.cell? ⟨s, 4, none⟩ = some (.pointer (some ⟨t, 0, none⟩))) (hT : TableAt w t m cb K) (hk : key ≠ 0)
    (hj : j < K.length) (hz : K0 K ((homeF K.length key + j) % K.length) = 0) (hp : ∀ i, i < j → K0 K ((homeF K.length key + i) % K.length) ≠ 0 ∧ K0 K ((homeF K.length key + i) % K.length) ≠ key) :
    Calls Tryz.prog 208 #[.pointer (some ⟨s, 0, none⟩), .int .u64 (key : Int)] w fun e w' => e = .returned (.tuple #[.int .i64 (((homeF K.length key + j) % K.length : Nat) : Int), .bool true]) ∧
      TableAt w' t m cb (K.set ((homeF K.length key + j) % K.length) key) ∧ Fr [m, cb] w w' := by
  have hlt := hT.lt
  have hne := hT.2.2.1
  have hne2 := hT.2.2.2.1
  have hS : 0 < K.length := by omega
  have HZ := Lib.hid hz
  have HP := Lib.hid hp
  clear hz hp
  go_enter Tryz.func208, Tryz.ntmps208
  go_wp2_with fail
  refine (find_any t m cb K key _ hT hk).mono ?_
  rintro e w1 ⟨f, rfl, hB, hT1, hF1, hf⟩
  go_wp2_with fail
  go_loopg [18] (j + 2) (fun k _ wr => FindRel t m cb f K key j w k wr)
  case atStart =>
    exact FindRel.start hS hT1 hF1 hB
  case round =>
    obtain ⟨hTr, hFr, hr⟩ := hrel
    have hff : f ≠ t ∧ f ≠ m ∧ f ≠ cb := by omega
    rcases hr with ⟨i, hi, hgk, hBr⟩ | ⟨hgk, hBr⟩
    · subst hgk
      by_cases e : i = j
      · subst e
        go_wp2_with fail
        refine (step_zero f t m cb K key _ _ false _ hBr hTr hff (Nat.mod_lt _ hS) HZ.out hk).mono ?_
        rintro e w2 ⟨rfl, hB2, hT2, hF2⟩
        go_wp2
        go_roundg 1
        case measure => omega
        case rel => exact FindRel.zero hFr hf hB2 hT2 hF2
      · have hij : i < j := by omega
        clear e
        go_wp2_with fail
        refine (step_other f t m cb K key _ _ false _ hBr hTr hff (Nat.mod_lt _ hS) (by omega) (by omega) (HP.out i hij).1 (HP.out i hij).2).mono ?_
        rintro e w2 ⟨rfl, hB2, hT2, hF2⟩
        go_wp2
        go_roundg (j - i - 1 + 2)
        case measure => omega
        case rel => exact FindRel.more hij hj hFr hf hB2 hT2 hF2
    · subst hgk
      go_wp2_with fail
      refine (step_claims f t m cb K key _ _ _ hBr hTr hff (Nat.mod_lt _ hS) HZ.out).mono ?_
      rintro e w2 ⟨rfl, hB2, hT2, hF2⟩
      go_wp2_with fail
      refine (slot_any f _ _ _ _ _ _ _ _ _ _ hB2).mono ?_
      rintro e w3 ⟨rfl, hB3, hF3⟩
      go_wp2_with fail
      refine (made_any f _ _ _ _ _ _ _ _ _ _ hB3).mono ?_
      rintro e w4 ⟨rfl, rfl⟩
      go_wp2
      go_ret2
      exact ⟨rfl, hT2.fr hF3 (by simp) (by simp) (by simp), (hFr.trans hF2 (by simp; omega)).trans hF3 (by simp)⟩
end Go.Proofs.YtiojnjihbidbiaaGreat
