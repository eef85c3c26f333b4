/- Package utable, walked: a finder that looks for a key which the table does not hold lays it into the first empty slot from the key's home on. -/
import Derived.Test.YtiojnjihbidbiaaGreatMem
import Derived.Deep.LoopGhost
import Derived.Lib.Hide
import Derived.Deep.RegionHeld3
import Derived.Deep.QuietTactic
import Derived.BigQuiet
import Derived.StillTailTactics
import Derived.Deep.DrawnRows
import Derived.Laws.EntriesVeiled
namespace Go.Proofs.YtiojnjihbidbiaaGreat
open Go.RowKit
attribute [local go_sem ↓] Go.wp_at_zero Go.wp_at_succ
set_option linter.unusedVariables false

/-- t is a table of all slots of the memory m. -/
def TableAt (w : World) (t m cb : Nat) (K : List Nat) : Prop :=
  Blk w t #[.pointer (some ⟨m, 0, none⟩), .int .i64 0, .int .i64 (K.length : Nat)] 264 ∧ MemAt w m cb K ∧ t ≠ m ∧ t ≠ cb ∧ 1 ≤ K.length ∧ K.length ≤ 262144

theorem TableAt.fr {O : List Nat} {w w' : World} {t m cb : Nat} {K : List Nat} (h : TableAt w t m cb K) (f : Fr O w w') (h0 : t ∉ O) (h1 : m ∉ O) (h2 : cb ∉ O) : TableAt w' t m cb K :=
  ⟨h.1.fr f h0, h.2.1.fr f h1 h2, h.2.2⟩
theorem TableAt.lt {w : World} {t m cb : Nat} {K : List Nat} (h : TableAt w t m cb K) : t < w.heap.size ∧ m < w.heap.size ∧ cb < w.heap.size := ⟨h.1.lt, h.2.1.lt⟩

abbrev looksV (f : Nat) : Value := .func (.func 273) #[.pointer (some ⟨f, 0, none⟩)] #[]
abbrev claimsV (f : Nat) : Value := .func (.func 279) #[.pointer (some ⟨f, 0, none⟩)] #[]

/-- A finder's cells. -/
def fcells (t : Nat) (key : Nat) (at_ left : Nat) (next : Value) (done : Bool) (slot e : Int) (made : Bool) : Array Value :=
  #[.pointer (some ⟨t, 0, none⟩), .int .u64 (key : Int), .int .i64 (at_ : Int), .int .i64 (left : Int), next, .bool done, .int .i64 slot, .int .i64 e, .bool made]

theorem slots_any (t m cb : Nat) (K : List Nat) (w : World) (h : TableAt w t m cb K) :
    Calls Tryz.prog 175 #[.pointer (some ⟨t, 0, none⟩)] w fun e w' => e = .returned (.int .i64 (K.length : Nat)) ∧ w = w' := by
  obtain ⟨ht, _, _⟩ := h
  have c2 := ht.cell 2 rfl
  go_enter Tryz.func175, Tryz.ntmps175
  go_wp2
  go_ret
  exact ⟨rfl, rfl⟩

theorem tat_any (t m cb : Nat) (K : List Nat) (s : Int) (w : World) (h : TableAt w t m cb K) (h0 : 0 ≤ s) (h1 : s < K.length) :
    Calls Tryz.prog 217 #[.pointer (some ⟨t, 0, none⟩), .int .i64 s] w fun e w' => e = .returned (.int .u64 (K0 K s.toNat : Nat)) ∧ TableAt w' t m cb K ∧ Fr [m] w w' := by
  have hT := h
  obtain ⟨ht, hm, hne, hne2, hl1, hl2⟩ := h
  have c0 := ht.cell 0 rfl
  have c1 := ht.cell 1 rfl
  have c2 := ht.cell 2 rfl
  have hw : IntKind.i64.wrap s = s := IntWalk.i64_in _ (by omega)
  go_enter Tryz.func217, Tryz.ntmps217
  go_wp2_with fail
  go_region_held3 (fun w' => w'.cell? ⟨t, 0, none⟩ = some (.pointer (some ⟨m, 0, none⟩)) ∧ w'.cell? ⟨t, 1, none⟩ = some (.int .i64 0)) (go_keep)
    ((go_at_call 177; refine (load_any m cb K _ _ (by exact hm) (by omega) (by omega)).mono ?_; rintro e w1 ⟨rfl, hm2, hF⟩; have ht2 := ht.drew.fr hF (by simp [hne]); have k0 := ht2.cell 0 rfl; have k1 := ht2.cell 1 rfl))
  go_wp2
  go_ret
  exact ⟨rfl, ⟨ht2, hm2, hne, hne2, hl1, hl2⟩, hF.undrew⟩

theorem ends_any (f : Nat) (cs : Array Value) (slot e : Int) (w : World) (h : Blk w f cs 319) (h9 : cs.size = 9) :
    Calls Tryz.prog 278 #[.pointer (some ⟨f, 0, none⟩), .int .i64 slot, .int .i64 e] w fun x w' => x = .returned (.tuple #[]) ∧
      Blk w' f (((cs.setIfInBounds 5 (.bool true)).setIfInBounds 6 (.int .i64 slot)).setIfInBounds 7 (.int .i64 e)) 319 ∧ Fr [f] w w' := by
  obtain ⟨v5, hv5⟩ : ∃ v, cs[5]? = some v := ⟨cs[5], by simp⟩
  obtain ⟨v6, hv6⟩ : ∃ v, cs[6]? = some v := ⟨cs[6], by simp⟩
  obtain ⟨v7, hv7⟩ : ∃ v, cs[7]? = some v := ⟨cs[7], by simp⟩
  have c5 := h.cell 5 hv5
  have c6 := h.cell 6 hv6
  have c7 := h.cell 7 hv7
  have f5 := h.free 5
  have f6 := h.free 6
  have f7 := h.free 7
  have B := ((h.set 5 (.bool true)).set 6 (.int .i64 slot)).set 7 (.int .i64 e)
  have F : Fr [f] w (((w.setCell ⟨f, 5, none⟩ (.bool true)).setCell ⟨f, 6, none⟩ (.int .i64 slot)).setCell ⟨f, 7, none⟩ (.int .i64 e)) :=
    (((Fr.refl _ _).setCell _ (.inl (by simp))).setCell _ (.inl (by simp))).setCell _ (.inl (by simp))
  clear hv5 hv6 hv7 h9
  go_enter Tryz.func278, Tryz.ntmps278
  go_wp2
  go_end0
  exact ⟨rfl, B, F⟩

theorem goes_any (f t m cb : Nat) (K : List Nat) (key a left : Nat) (nx : Value) (made : Bool) (w : World) (h : Blk w f (fcells t key a left nx false (-1) 61 made) 319) (hT : TableAt w t m cb K) (hft : f ≠ t)
    (ha : a < K.length) (hl : 2 ≤ left) (hl2 : left ≤ K.length) :
    Calls Tryz.prog 280 #[.pointer (some ⟨f, 0, none⟩)] w fun e w' => e = .returned (.tuple #[]) ∧
      Blk w' f (fcells t key ((a + 1) % K.length) (left - 1) nx false (-1) 61 made) 319 ∧ Fr [f] w w' := by
  obtain ⟨ht, hm, hne, hne2, hl1, hl3⟩ := hT
  have B := (h.set 2 (.int .i64 (((a : Int) + 1) % (K.length : Int)))).set 3 (.int .i64 ((left : Int) - 1))
  have F : Fr [f] w ((w.setCell ⟨f, 2, none⟩ (.int .i64 (((a : Int) + 1) % (K.length : Int)))).setCell ⟨f, 3, none⟩ (.int .i64 ((left : Int) - 1))) :=
    ((Fr.refl _ _).setCell _ (.inl (by simp))).setCell _ (.inl (by simp))
  have B' : Blk ((w.setCell ⟨f, 2, none⟩ (.int .i64 (((a : Int) + 1) % (K.length : Int)))).setCell ⟨f, 3, none⟩ (.int .i64 ((left : Int) - 1))) f
      (fcells t key ((a + 1) % K.length) (left - 1) nx false (-1) 61 made) 319 := by
    have e1 : (((a + 1) % K.length : Nat) : Int) = ((a : Int) + 1) % (K.length : Int) := by simp
    have e2 : ((left - 1 : Nat) : Int) = (left : Int) - 1 := by omega
    unfold fcells
    rw [e1, e2]
    exact B
  clear B
  unfold fcells at h
  have c0 := h.cell 0 rfl
  have c2 := h.cell 2 rfl
  have c3 := h.cell 3 rfl
  have f2 := h.free 2
  have f3 := h.free 3
  have t2 := ht.cell 2 rfl
  have hz : ¬ (K.length : Int) = 0 := by omega
  have hw : IntKind.i64.wrap ((a : Int) + 1) = (a : Int) + 1 := IntWalk.i64_in _ (by omega)
  go_enter Tryz.func280, Tryz.ntmps280
  go_wp2_with fail
  go_region
  go_wp2
  go_end0
  exact ⟨rfl, B'.drew, F.drew⟩

/-- The slot that is looked at holds another key. -/
theorem looks_other (f t m cb : Nat) (K : List Nat) (key a left : Nat) (made : Bool) (w : World) (h : Blk w f (fcells t key a left (looksV f) false (-1) 61 made) 319) (hT : TableAt w t m cb K)
    (hf : f ≠ t ∧ f ≠ m ∧ f ≠ cb) (ha : a < K.length) (hl : 2 ≤ left) (hl2 : left ≤ K.length) (hz : K0 K a ≠ 0) (hk : K0 K a ≠ key) :
    Calls Tryz.prog 273 #[.pointer (some ⟨f, 0, none⟩)] w fun e w' => e = .returned (.tuple #[]) ∧
      Blk w' f (fcells t key ((a + 1) % K.length) (left - 1) (looksV f) false (-1) 61 made) 319 ∧ TableAt w' t m cb K ∧ Fr [f, m] w w' := by
  have hTT := hT
  obtain ⟨ht, hm, hne, hne2, hl1, hl3⟩ := hT
  have h' := h
  unfold fcells at h
  have c0 := h.cell 0 rfl
  have c1 := h.cell 1 rfl
  have c2 := h.cell 2 rfl
  have t0 := ht.cell 0 rfl
  have t1 := ht.cell 1 rfl
  have hw : IntKind.i64.wrap (a : Int) = (a : Int) := IntWalk.i64_in _ (by omega)
  have hz' := ne_test0 hz
  have hk' := ne_test hk
  go_enter Tryz.func273, Tryz.ntmps273
  go_wp2_with fail
  go_region_held3 (fun w' => w'.cell? ⟨f, 0, none⟩ = some (.pointer (some ⟨t, 0, none⟩)) ∧ w'.cell? ⟨f, 2, none⟩ = some (.int .i64 (a : Int)) ∧ w'.cell? ⟨t, 0, none⟩ = some (.pointer (some ⟨m, 0, none⟩)) ∧ w'.cell? ⟨t, 1, none⟩ = some (.int .i64 0)) (go_keep)
    ((go_at_call 177; refine (load_any m cb K _ _ (by exact hm) (by omega) (by omega)).mono ?_; rintro e w1 ⟨rfl, hm2, hF⟩; have ht2 := ht.drew.fr hF (by simp [hne]); have hf2 := h.drew.fr hF (by simp [hf]); have k0 := ht2.cell 0 rfl; have k1 := ht2.cell 1 rfl; have k2 := hf2.cell 0 rfl; have k3 := hf2.cell 2 rfl; have k4 := hf2.cell 1 rfl))
  have hT1 : TableAt w1 t m cb K := ⟨ht2, hm2, hne, hne2, hl1, hl3⟩
  have hfb := h'.drew.fr hF (by simp [hf])
  clear c0 c1 c2 t0 t1
  go_wp2_with fail
  refine (goes_any f t m cb K key a left _ _ _ hfb hT1 hf.1 ha hl hl2).mono ?_
  rintro e w2 ⟨rfl, hB, hF2⟩
  go_wp2
  go_end0
  exact ⟨rfl, hB, hT1.fr hF2 (by simp; omega) (by simp; omega) (by simp; omega), (hF.undrew.mono (by simp)).trans hF2 (by simp)⟩

/-- The slot that is looked at is empty. -/
theorem looks_zero (f t m cb : Nat) (K : List Nat) (key a left : Nat) (made : Bool) (w : World) (h : Blk w f (fcells t key a left (looksV f) false (-1) 61 made) 319) (hT : TableAt w t m cb K)
    (hf : f ≠ t ∧ f ≠ m ∧ f ≠ cb) (ha : a < K.length) (hz : K0 K a = 0) (hk : key ≠ 0) :
    Calls Tryz.prog 273 #[.pointer (some ⟨f, 0, none⟩)] w fun e w' => e = .returned (.tuple #[]) ∧
      Blk w' f (fcells t key a left (claimsV f) false (-1) 61 made) 319 ∧ TableAt w' t m cb K ∧ Fr [f, m] w w' := by
  have hTT := hT
  obtain ⟨ht, hm, hne, hne2, hl1, hl3⟩ := hT
  have h' := h
  unfold fcells at h
  have c0 := h.cell 0 rfl
  have c1 := h.cell 1 rfl
  have c2 := h.cell 2 rfl
  have t0 := ht.cell 0 rfl
  have t1 := ht.cell 1 rfl
  have hw : IntKind.i64.wrap (a : Int) = (a : Int) := IntWalk.i64_in _ (by omega)
  have hk' : ((K0 K a : Int) == (key : Int)) = false := by rw [beq_eq_false_iff_ne]; omega
  have hz' : ((K0 K a : Int) == 0) = true := by rw [beq_iff_eq]; omega
  clear hz
  go_enter Tryz.func273, Tryz.ntmps273
  go_wp2_with fail
  go_region_held3 (fun w' => w'.cell? ⟨f, 0, none⟩ = some (.pointer (some ⟨t, 0, none⟩)) ∧ w'.cell? ⟨f, 2, none⟩ = some (.int .i64 (a : Int)) ∧ w'.cell? ⟨t, 0, none⟩ = some (.pointer (some ⟨m, 0, none⟩)) ∧ w'.cell? ⟨t, 1, none⟩ = some (.int .i64 0)) (go_keep)
    ((go_at_call 177; refine (load_any m cb K _ _ (by exact hm) (by omega) (by omega)).mono ?_; rintro e w1 ⟨rfl, hm2, hF⟩; have ht2 := ht.drew.fr hF (by simp [hne]); have hf2 := h.drew.fr hF (by simp [hf]); have k0 := ht2.cell 0 rfl; have k1 := ht2.cell 1 rfl; have k2 := hf2.cell 0 rfl; have k3 := hf2.cell 2 rfl; have k4 := hf2.cell 1 rfl; have k5 := hf2.cell 4 rfl; have f4 := hf2.free 4))
  have hT1 : TableAt w1 t m cb K := ⟨ht2, hm2, hne, hne2, hl1, hl3⟩
  have B := hf2.set 4 (claimsV f)
  have F : Fr [f] w1 (w1.setCell ⟨f, 4, none⟩ (claimsV f)) := (Fr.refl _ _).setCell _ (.inl (by simp))
  clear c0 c1 c2 t0 t1
  go_wp2
  go_end0
  exact ⟨rfl, B, hT1.fr F (by simp; omega) (by simp; omega) (by simp; omega), (hF.undrew.mono (by simp)).trans F (by simp)⟩

end Go.Proofs.YtiojnjihbidbiaaGreat
