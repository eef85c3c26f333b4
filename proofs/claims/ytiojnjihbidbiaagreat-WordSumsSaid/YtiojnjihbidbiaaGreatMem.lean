/- Package mem, walked: cells of a memory are loaded, stored, compared and swapped; how often they were touched is counted. -/
import Derived.Test.YtiojnjihbidbiaaGreatBits
namespace Go.Proofs.YtiojnjihbidbiaaGreat
open Go.RowKit

/-- m is a memory over the row cb, which holds the numbers K. -/
def MemAt (w : World) (m cb : Nat) (K : List Nat) : Prop :=
  ∃ a b : Int, Blk w m #[.slice (some ⟨cb, 0, none⟩) K.length K.length, .int .i64 a, .int .i64 b] 216 ∧ Blk w cb (ints .u64 K) 310 ∧ m ≠ cb

theorem MemAt.fr {O : List Nat} {w w' : World} {m cb : Nat} {K : List Nat} (h : MemAt w m cb K) (f : Fr O w w') (h1 : m ∉ O) (h2 : cb ∉ O) : MemAt w' m cb K := by
  obtain ⟨a, b, h0, h3, hne⟩ := h
  exact ⟨a, b, h0.fr f h1, h3.fr f h2, hne⟩
theorem MemAt.lt {w : World} {m cb : Nat} {K : List Nat} (h : MemAt w m cb K) : m < w.heap.size ∧ cb < w.heap.size := by
  obtain ⟨a, b, h0, h3, hne⟩ := h
  exact ⟨h0.lt, h3.lt⟩

theorem add_any (b o : Nat) (a d : Int) (w : World) (h : w.cell? ⟨b, o, none⟩ = some (.int .i64 a)) (hf : w.frozen? ⟨b, o, none⟩ = false) :
    Calls Tryz.prog 221 #[.pointer (some ⟨b, o, none⟩), .int .i64 d] w fun e w' => e = .returned (.int .i64 (wrap64 (a + d))) ∧ w.setCell ⟨b, o, none⟩ (.int .i64 (wrap64 (a + d))) = w' := by
  have hd := run_call_add (P := Tryz.prog) Tryz.func264 (by kernel_rfl) (by kernel_rfl) (by kernel_rfl) .i64 (by kernel_rfl) (y := d) h hf (s := wrap64 (a + d)) (by simp [go_sem, wrap64, IntKind.wrap_i64])
  go_enter Tryz.func221, Tryz.ntmps221
  go_wp2
  go_ret
  exact ⟨rfl, rfl⟩

theorem aload_any (b o : Nat) (a : Int) (w : World) (h : w.cell? ⟨b, o, none⟩ = some (.int .u64 a)) :
    Calls Tryz.prog 219 #[.pointer (some ⟨b, o, none⟩)] w fun e w' => e = .returned (.int .u64 a) ∧ w = w' := by
  have hd := run_call_load (P := Tryz.prog) Tryz.func262 (by kernel_rfl) (by kernel_rfl) (by kernel_rfl) .u64 (by kernel_rfl) h
  go_enter Tryz.func219, Tryz.ntmps219
  go_wp2
  go_ret
  exact ⟨rfl, rfl⟩

theorem astore_any (b o : Nat) (a v : Int) (w : World) (h : w.cell? ⟨b, o, none⟩ = some (.int .u64 a)) (hf : w.frozen? ⟨b, o, none⟩ = false) :
    Calls Tryz.prog 293 #[.pointer (some ⟨b, o, none⟩), .int .u64 v] w fun e w' => e = .returned (.tuple #[]) ∧ w.setCell ⟨b, o, none⟩ (.int .u64 v) = w' := by
  have hd := run_call_store (P := Tryz.prog) Tryz.func295 (by kernel_rfl) (by kernel_rfl) (by kernel_rfl) (by kernel_rfl) (k := .u64) (y := v) h hf
  go_enter Tryz.func293, Tryz.ntmps293
  go_wp2
  go_end0
  exact ⟨rfl, rfl⟩

theorem acas_hit (b o : Nat) (a v : Int) (w : World) (h : w.cell? ⟨b, o, none⟩ = some (.int .u64 a)) (hf : w.frozen? ⟨b, o, none⟩ = false) :
    Calls Tryz.prog 220 #[.pointer (some ⟨b, o, none⟩), .int .u64 a, .int .u64 v] w fun e w' => e = .returned (.bool true) ∧ w.setCell ⟨b, o, none⟩ (.int .u64 v) = w' := by
  have hd := run_call_cas_hit (P := Tryz.prog) Tryz.func263 (by kernel_rfl) (by kernel_rfl) (by kernel_rfl) .u64 (by kernel_rfl) (y := v) h hf
  go_enter Tryz.func220, Tryz.ntmps220
  go_wp2
  go_ret
  exact ⟨rfl, rfl⟩

theorem at_in (m cb S : Nat) (a i : Int) (w : World) (h0 : w.cell? ⟨m, 0, none⟩ = some (.slice (some ⟨cb, 0, none⟩) S S)) (h1 : w.cell? ⟨m, 1, none⟩ = some (.int .i64 a)) (hf : w.frozen? ⟨m, 1, none⟩ = false)
   (hi0 : 0 ≤ i) (hi : i < S) :
    Calls Tryz.prog 218 #[.pointer (some ⟨m, 0, none⟩), .int .i64 i] w fun e w' => e = .returned (.pointer (some ⟨cb, i.toNat, none⟩)) ∧ w.setCell ⟨m, 1, none⟩ (.int .i64 (wrap64 (a + 1))) = w' := by
  go_enter Tryz.func218, Tryz.ntmps218
  go_wp2_with fail
  refine (add_any _ _ _ _ _ h1 hf).mono ?_
  rintro e w' ⟨rfl, rfl⟩
  go_wp2
  go_ret
  exact ⟨rfl, rfl⟩

theorem load_any (m cb : Nat) (K : List Nat) (i : Int) (w : World) (h : MemAt w m cb K) (hi0 : 0 ≤ i) (hi : i < K.length) :
    Calls Tryz.prog 177 #[.pointer (some ⟨m, 0, none⟩), .int .i64 i] w fun e w' => e = .returned (.int .u64 (K0 K i.toNat : Nat)) ∧ MemAt w' m cb K ∧ Fr [m] w w' := by
  obtain ⟨a, b, hm, hc, hne⟩ := h
  have hi' : i.toNat < K.length := by omega
  have c0 := hm.cell 0 rfl
  have c1 := hm.cell 1 rfl
  have f1 := hm.free 1
  have hm2 := hm.set 1 (.int .i64 (wrap64 (a + 1)))
  have hc2 := hc.other (p := ⟨m, 1, none⟩) (.int .i64 (wrap64 (a + 1))) (Ne.symm hne)
  have cc := hc2.cell i.toNat (ints_get .u64 K i.toNat hi')
  have fr : Fr [m] w (w.setCell ⟨m, 1, none⟩ (.int .i64 (wrap64 (a + 1)))) := (Fr.refl _ _).setCell _ (.inl (by simp))
  go_enter Tryz.func177, Tryz.ntmps177
  go_wp2_with fail
  refine (at_in _ _ _ _ _ _ c0 c1 f1 hi0 hi).mono ?_
  rintro e w' ⟨rfl, rfl⟩
  go_wp2_with fail
  refine (aload_any _ _ _ _ cc).mono ?_
  rintro e w' ⟨rfl, rfl⟩
  go_wp2
  go_ret
  exact ⟨rfl, ⟨_, _, hm2, hc2, hne⟩, fr⟩

theorem store_any (m cb : Nat) (K : List Nat) (i : Int) (v : Nat) (w : World) (h : MemAt w m cb K) (hi0 : 0 ≤ i) (hi : i < K.length) :
    Calls Tryz.prog 289 #[.pointer (some ⟨m, 0, none⟩), .int .i64 i, .int .u64 (v : Int)] w fun e w' => e = .returned (.tuple #[]) ∧ MemAt w' m cb (K.set i.toNat v) ∧ Fr [m, cb] w w' := by
  obtain ⟨a, b, hm, hc, hne⟩ := h
  have hi' : i.toNat < K.length := by omega
  have c0 := hm.cell 0 rfl
  have c1 := hm.cell 1 rfl
  have f1 := hm.free 1
  have hm2 := hm.set 1 (.int .i64 (wrap64 (a + 1)))
  have hc2 := hc.other (p := ⟨m, 1, none⟩) (.int .i64 (wrap64 (a + 1))) (Ne.symm hne)
  have cc := hc2.cell i.toNat (ints_get .u64 K i.toNat hi')
  have fc := hc2.free i.toNat
  have hm3 := hm2.other (p := ⟨cb, i.toNat, none⟩) (.int .u64 (v : Int)) hne
  have hc3 := hc2.set i.toNat (.int .u64 (v : Int))
  have fr : Fr [m, cb] w ((w.setCell ⟨m, 1, none⟩ (.int .i64 (wrap64 (a + 1)))).setCell ⟨cb, i.toNat, none⟩ (.int .u64 (v : Int))) :=
    ((Fr.refl _ _).setCell _ (.inl (by simp))).setCell _ (.inl (by simp))
  rw [ints_set] at hc3
  go_enter Tryz.func289, Tryz.ntmps289
  go_wp2_with fail
  refine (at_in _ _ _ _ _ _ c0 c1 f1 hi0 hi).mono ?_
  rintro e w' ⟨rfl, rfl⟩
  go_wp2_with fail
  refine (astore_any _ _ _ _ _ cc fc).mono ?_
  rintro e w' ⟨rfl, rfl⟩
  go_wp2
  go_end0
  exact ⟨rfl, ⟨_, _, by rw [List.length_set]; exact hm3, hc3, hne⟩, fr⟩

/-- Where the cell holds what is expected. -/
theorem cas_hit (m cb : Nat) (K : List Nat) (i : Int) (o v : Nat) (w : World) (h : MemAt w m cb K) (hi0 : 0 ≤ i) (hi : i < K.length) (ho : K0 K i.toNat = o) :
    Calls Tryz.prog 178 #[.pointer (some ⟨m, 0, none⟩), .int .i64 i, .int .u64 (o : Int), .int .u64 (v : Int)] w fun e w' => e = .returned (.bool true) ∧ MemAt w' m cb (K.set i.toNat v) ∧ Fr [m, cb] w w' := by
  obtain ⟨a, b, hm, hc, hne⟩ := h
  have hi' : i.toNat < K.length := by omega
  have c0 := hm.cell 0 rfl
  have c1 := hm.cell 1 rfl
  have f1 := hm.free 1
  have hm2 := hm.set 1 (.int .i64 (wrap64 (a + 1)))
  have hc2 := hc.other (p := ⟨m, 1, none⟩) (.int .i64 (wrap64 (a + 1))) (Ne.symm hne)
  have cc := hc2.cell i.toNat (ints_get .u64 K i.toNat hi')
  rw [ho] at cc
  clear ho
  have fc := hc2.free i.toNat
  have hm3 := hm2.other (p := ⟨cb, i.toNat, none⟩) (.int .u64 (v : Int)) hne
  have hc3 := hc2.set i.toNat (.int .u64 (v : Int))
  have fr : Fr [m, cb] w ((w.setCell ⟨m, 1, none⟩ (.int .i64 (wrap64 (a + 1)))).setCell ⟨cb, i.toNat, none⟩ (.int .u64 (v : Int))) :=
    ((Fr.refl _ _).setCell _ (.inl (by simp))).setCell _ (.inl (by simp))
  rw [ints_set] at hc3
  go_enter Tryz.func178, Tryz.ntmps178
  go_wp2_with fail
  refine (at_in _ _ _ _ _ _ c0 c1 f1 hi0 hi).mono ?_
  rintro e w' ⟨rfl, rfl⟩
  go_wp2_with fail
  refine (acas_hit _ _ _ _ _ cc fc).mono ?_
  rintro e w' ⟨rfl, rfl⟩
  go_wp2
  go_ret
  exact ⟨rfl, ⟨_, _, by rw [List.length_set]; exact hm3, hc3, hne⟩, fr⟩

theorem mlen_any (m cb : Nat) (K : List Nat) (w : World) (h : MemAt w m cb K) :
    Calls Tryz.prog 159 #[.pointer (some ⟨m, 0, none⟩)] w fun e w' => e = .returned (.int .i64 (K.length : Nat)) ∧ w = w' := by
  obtain ⟨a, b, hm, hc, hne⟩ := h
  have c0 := hm.cell 0 rfl
  go_enter Tryz.func159, Tryz.ntmps159
  go_wp2
  go_ret
  exact ⟨rfl, rfl⟩

theorem Tryz.info_u64 : (Tryz.prog.info? 310).map (fun i => (i.zero, i.size, i.bytes)) = some (some (.agg #[.int .u64 0]), 1, 8) := by kernel_rfl

/-- A slice of zeros made. -/
theorem run_make_zeros {P : Program} (w : World) (t e : TypeId) (z : Value) (b : Nat) (k : IntKind) (ht : P.underlying t = some (.slice e)) (hi : (P.info? e).map (fun i => (i.zero, i.size, i.bytes)) = some (some z, 1, b))
    (hz : z.cells = #[.int k 0]) (n : Nat) (hb : b * n ≤ 281474976710656) (hn : n ≤ 262144) :
    (Instr.makeSlice t (.int .i64 (n : Int)) (.int .i64 (n : Int))).run P w = .ok (.slice (some ⟨w.heap.size, 0, none⟩) n n) (w.alloc (.cells (ints k (List.replicate n 0)) e)) := by
  obtain ⟨i, h1, h2, h3, h4⟩ := info_parts hi
  have := run_make (P := P) w t e i z ht h1 h2 .i64 .i64 (n : Int) (n : Int) (by omega) (by omega) (by rw [h4]; omega) (by omega)
  rw [this, h3, hz, Int.toNat_natCast, Nat.mul_one]
  congr 3
  apply Array.ext'
  rw [toList_madeCells_one]
  simp [ints]

theorem mnew_any (n : Nat) (w : World) (hn : n ≤ 262144) :
    Calls Tryz.prog 94 #[.int .i64 (n : Int)] w fun e w' => ∃ m cb, e = .returned (.pointer (some ⟨m, 0, none⟩)) ∧ MemAt w' m cb (List.replicate n 0) ∧ Fr [] w w' ∧ w.heap.size ≤ m ∧ w.heap.size ≤ cb := by
  have hmk := run_make_zeros (P := Tryz.prog) w 209 310 (.agg #[.int .u64 0]) 8 .u64 Tryz.underlying209 Tryz.info_u64 rfl n (by omega) hn
  go_enter Tryz.func94, Tryz.ntmps94
  go_wp2
  go_ret
  refine ⟨_, _, rfl, ⟨0, 0, ?_, (Blk.new w _ _).alloc _, ?_⟩, ((Fr.refl _ _).alloc _).alloc _, ?_, Nat.le_refl _⟩
  · have := Blk.new (w.alloc (.cells (ints .u64 (List.replicate n 0)) 310)) #[.slice (some ⟨w.heap.size, 0, none⟩) n n, .int .i64 0, .int .i64 0] 216
    simpa using this
  · simp
  · simp
end Go.Proofs.YtiojnjihbidbiaaGreat
