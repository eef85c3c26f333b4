/- spinneyplay.Make, walked: a function's node, by Mk alone. -/
import Derived.Test.YtiojnjihbidbiaaGreatPlay2
import Derived.Test.YtiojnjihbidbiaaGreatWordC
import Derived.Deep.RegionWith
namespace Go.Proofs.YtiojnjihbidbiaaGreat
open Go.RowKit
attribute [local go_sem ↓] Go.wp_at_zero Go.wp_at_succ
set_option linter.unusedVariables false

/-- F hangs on the variables from k on, below n, alone. -/
def DepFrom (k n : Nat) (F : Fun) : Prop := ∀ y z, (∀ v, k ≤ v → v < n → y v = z v) → F y = F z
theorem DepFrom.dep {k n : Nat} {F : Fun} (h : DepFrom k n F) : Dep n F := fun y z hy => h y z fun v _ hv => hy v hv
theorem Dep.from {n : Nat} {F : Fun} (h : Dep n F) : DepFrom 0 n F := fun y z hy => h y z fun v hv => hy v (by omega) hv
theorem DepFrom.fix {k n : Nat} {F : Fun} (h : DepFrom k n F) (b : Bool) : DepFrom (k + 1) n (fixF F k b) := fun y z hy => h _ _ fun v h1 h2 => by
  unfold Bdd.upd; split
  · rfl
  · exact hy v (by omega) h2
theorem DepFrom.const {n : Nat} {F : Fun} (h : DepFrom n n F) (y z : Nat → Bool) : F y = F z := h y z fun v h1 h2 => by omega
theorem fix_split (F : Fun) (k : Nat) (y : Nat → Bool) : (if y k then fixF F k true y else fixF F k false y) = F y := by
  unfold fixF
  cases e : y k
  · rw [if_neg (by simp), ← e, Bdd.upd_self]
  · rw [if_pos rfl, ← e, Bdd.upd_self]

theorem Blk.cells4 {w' : World} {b : Nat} {F : Fun} {t : TypeId} (h : Blk w' b (tcells F) t) : w'.cell? ⟨b, 0, none⟩ = some (.int .u64 (wd F 0 : Nat)) ∧ w'.cell? ⟨b, 1, none⟩ = some (.int .u64 (wd F 1 : Nat)) ∧ w'.cell? ⟨b, 2, none⟩ = some (.int .u64 (wd F 2 : Nat)) ∧ w'.cell? ⟨b, 3, none⟩ = some (.int .u64 (wd F 3 : Nat)) := ⟨h.cell 0 rfl, h.cell 1 rfl, h.cell 2 rfl, h.cell 3 rfl⟩

/-- What Make answers. -/
def MakePost (s n room : Nat) (off : Bool) (B : List Nat) (L : List Bdd.Nd) (w : World) (c : Nat) (F : Fun) (e : Ending) (w' : World) : Prop :=
  ∃ (h : Nat) (B' : List Nat) (L' : List Bdd.Nd), e = .returned (.tuple #[.int .u32 (h : Int), .bool true]) ∧ Evo s n room off B L w B' L' w' c ∧ Den n L' h F

section
variable {w w' : World} {s n room : Nat} {off : Bool} {B : List Nat} {L : List Bdd.Nd}

theorem MakePost.from {B1 : List Nat} {L1 : List Bdd.Nd} {w1 : World} {c c1 c2 : Nat} {F G : Fun} {e : Ending} (h1 : Evo s n room off B L w B1 L1 w1 c1) (h2 : MakePost s n room off B1 L1 w1 c2 F e w') (hc : c1 + c2 ≤ c) (hf : ∀ y, F y = G y) : MakePost s n room off B L w c G e w' := by
  obtain ⟨h, B2, L2, e, hev, hden⟩ := h2
  exact ⟨h, B2, L2, e, (h1.trans hev).mono hc, hden.fn hf⟩

theorem den_lev {h : Nat} {F : Fun} {k : Nat} (hw : Bdd.Wf n (Bdd.tab L)) (d : Den n L h F) (hk : k ≤ n) (hF : DepFrom k n F) : k ≤ Bdd.lev n (Bdd.tab L) h :=
  Bdd.lev_ge hw d.1 hk fun l hl y b => by
    rw [d.2, d.2]
    exact hF _ _ fun v h1 _ => Bdd.upd_other y b (by omega)

set_option maxHeartbeats 2000000 in
set_option maxRecDepth 8000 in
theorem made_zero (F : Fun) (sv vv kv : Value) (w : World) (hz : eqT F (fun _ => false) = true) :
    Calls Tryz.prog 108 #[sv, tv F, vv, kv] w fun e w' => e = .returned (.tuple #[.int .u32 0, .bool true]) ∧ Fr [] w w' := by
  have hz1 : eqT F (fun _ => true) = false := by
    cases e : eqT F (fun _ => true)
    · rfl
    · have h1 := eqT_iff.1 hz 0 (by omega)
      have h2 := eqT_iff.1 e 0 (by omega)
      rw [h1] at h2; cases h2
  have hB := Blk.new w (tcells F) 49
  have FR0 : Fr [] w (w.alloc (.cells (tcells F) 49)) := (Fr.refl [] w).alloc _
  have hBd : Blk (w.alloc (.cells (tcells F) 49)).drew w.heap.size (tcells F) 49 := hB
  have he0 := run_eqT F (fun _ => false)
  have he1 := run_eqT F (fun _ => true)
  obtain ⟨c0, c1, c2, c3⟩ := hBd.cells4
  have HB := Lib.hid hB
  have HF0 := Lib.hid FR0
  clear hB FR0 hBd
  go_enter Tryz.func108, Tryz.ntmps108
  go_wp2_with fail
  go_region_with (go_at_call 121; (with_reducible refine (tconst_any false _).mono ?_); rintro e w5 ⟨rfl, hA⟩; have H1 := Lib.hid (HB.out.drew.fr hA (by simp)); have G1 := Lib.hid (HF0.out.drew.then hA); obtain ⟨p0, p1, p2, p3⟩ := H1.out.cells4; clear hA c0 c1 c2 c3)
  all_goals
    simp only [Act.put, List.setIfInBounds_toArray, List.set_cons_zero, List.set_cons_succ, List.getElem_toArray, List.getElem_cons_zero, List.getElem_cons_succ]
    have H1' := Lib.hid (H1.out.drew)
    obtain ⟨m0, m1, m2, m3⟩ := H1'.out.cells4
    go_wp2_with fail
    go_region_held3 (fun w' => w'.cell? ⟨w.heap.size, 0, none⟩ = some (.int .u64 (wd F 0 : Nat)) ∧ w'.cell? ⟨w.heap.size, 1, none⟩ = some (.int .u64 (wd F 1 : Nat)) ∧ w'.cell? ⟨w.heap.size, 2, none⟩ = some (.int .u64 (wd F 2 : Nat)) ∧ w'.cell? ⟨w.heap.size, 3, none⟩ = some (.int .u64 (wd F 3 : Nat))) (go_keep)
      (first
       | (go_at_call 121; (with_reducible refine (tconst_any true _).mono ?_); rintro e w6 ⟨rfl, hA⟩; have H2 := Lib.hid (H1'.out.fr hA (by simp)); have G2 := Lib.hid (G1.out.drew.then hA); obtain ⟨q0, q1, q2, q3⟩ := H2.out.cells4; clear hA m0 m1 m2 m3))
    go_wp2
    go_ret2
    exact ⟨rfl, G2.out⟩

set_option maxHeartbeats 2000000 in
set_option maxRecDepth 8000 in
theorem made_one (F : Fun) (sv vv kv : Value) (w : World) (hz' : eqT F (fun _ => false) = false) (ho : eqT F (fun _ => true) = true) :
    Calls Tryz.prog 108 #[sv, tv F, vv, kv] w fun e w' => e = .returned (.tuple #[.int .u32 1, .bool true]) ∧ Fr [] w w' := by
  have hB := Blk.new w (tcells F) 49
  have FR0 : Fr [] w (w.alloc (.cells (tcells F) 49)) := (Fr.refl [] w).alloc _
  have hBd : Blk (w.alloc (.cells (tcells F) 49)).drew w.heap.size (tcells F) 49 := hB
  have he0 := run_eqT F (fun _ => false)
  have he1 := run_eqT F (fun _ => true)
  obtain ⟨c0, c1, c2, c3⟩ := hBd.cells4
  have HB := Lib.hid hB
  have HF0 := Lib.hid FR0
  clear hB FR0 hBd
  go_enter Tryz.func108, Tryz.ntmps108
  go_wp2_with fail
  go_region_held3 (fun w' => w'.cell? ⟨w.heap.size, 0, none⟩ = some (.int .u64 (wd F 0 : Nat)) ∧ w'.cell? ⟨w.heap.size, 1, none⟩ = some (.int .u64 (wd F 1 : Nat)) ∧ w'.cell? ⟨w.heap.size, 2, none⟩ = some (.int .u64 (wd F 2 : Nat)) ∧ w'.cell? ⟨w.heap.size, 3, none⟩ = some (.int .u64 (wd F 3 : Nat))) (go_keep)
    (first
     | (go_at_call 121; (with_reducible refine (tconst_any false _).mono ?_); rintro e w5 ⟨rfl, hA⟩; have H1 := Lib.hid (HB.out.drew.fr hA (by simp)); have G1 := Lib.hid (HF0.out.drew.then hA); obtain ⟨p0, p1, p2, p3⟩ := H1.out.cells4; clear hA c0 c1 c2 c3)
     | (go_at_call 121; (with_reducible refine (tconst_any true _).mono ?_); rintro e w6 ⟨rfl, hA⟩; have H2 := Lib.hid (H1.out.fr hA (by simp)); have G2 := Lib.hid (G1.out.then hA); obtain ⟨q0, q1, q2, q3⟩ := H2.out.cells4; clear hA p0 p1 p2 p3))
  go_wp2_with fail
  have H2' := Lib.hid (H2.out.drew)
  obtain ⟨m0, m1, m2, m3⟩ := H2'.out.cells4
  go_region_held3 (fun w' => w'.cell? ⟨w.heap.size, 0, none⟩ = some (.int .u64 (wd F 0 : Nat)) ∧ w'.cell? ⟨w.heap.size, 1, none⟩ = some (.int .u64 (wd F 1 : Nat)) ∧ w'.cell? ⟨w.heap.size, 2, none⟩ = some (.int .u64 (wd F 2 : Nat)) ∧ w'.cell? ⟨w.heap.size, 3, none⟩ = some (.int .u64 (wd F 3 : Nat))) (go_keep)
    (first
     | (go_at_call 121; (with_reducible refine (tconst_any true _).mono ?_); rintro e w7 ⟨rfl, hA⟩; have H3 := Lib.hid (H2'.out.fr hA (by simp)); have G3 := Lib.hid (G2.out.drew.then hA); obtain ⟨r0, r1, r2, r3⟩ := H3.out.cells4; clear hA m0 m1 m2 m3))
  go_wp2
  go_ret2
  exact ⟨rfl, G3.out⟩
end
end Go.Proofs.YtiojnjihbidbiaaGreat
