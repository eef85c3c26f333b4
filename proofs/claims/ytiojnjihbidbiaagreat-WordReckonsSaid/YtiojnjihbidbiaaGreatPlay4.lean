/- spinneyplay.Make, walked: a function's node, by Mk alone. -/
import Derived.Test.YtiojnjihbidbiaaGreatPlay3
import Derived.Deep.DeepCutAuto
namespace Go.Proofs.YtiojnjihbidbiaaGreat
open Go.RowKit
attribute [local go_sem ↓] Go.wp_at_zero Go.wp_at_succ
set_option linter.unusedVariables false

section
variable {w w' : World} {s n room : Nat} {off : Bool} {B : List Nat} {L : List Bdd.Nd}

theorem Blk.new' {w : World} {b : Nat} {cs : Array Value} {t : TypeId} (h : b = w.heap.size) : Blk (w.alloc (.cells cs t)) b cs t := by subst h; exact Blk.new w cs t
theorem Blk.fourZ {w : World} {r : Nat} {t : TypeId} {F : Fun} (h : Blk w r #[.int .u64 0, .int .u64 0, .int .u64 0, .int .u64 0] t) :
    Blk ((((w.setCell ⟨r, 0, none⟩ (.int .u64 (wd F 0 : Nat))).setCell ⟨r, 1, none⟩ (.int .u64 (wd F 1 : Nat))).setCell ⟨r, 2, none⟩ (.int .u64 (wd F 2 : Nat))).setCell ⟨r, 3, none⟩ (.int .u64 (wd F 3 : Nat))) r (tcells F) t := h.four rfl
theorem Blk.far4 {w : World} {b r : Nat} {cs : Array Value} {t : TypeId} {v0 v1 v2 v3 : Value} (h : Blk w b cs t) (hne : b ≠ r) : Blk ((((w.setCell ⟨r, 0, none⟩ v0).setCell ⟨r, 1, none⟩ v1).setCell ⟨r, 2, none⟩ v2).setCell ⟨r, 3, none⟩ v3) b cs t :=
  (((h.other _ hne).other _ hne).other _ hne).other _ hne
theorem Fr.set4 {a w : World} {r : Nat} {v0 v1 v2 v3 : Value} (h : Fr [] a w) (hr : a.heap.size ≤ r) : Fr [] a ((((w.setCell ⟨r, 0, none⟩ v0).setCell ⟨r, 1, none⟩ v1).setCell ⟨r, 2, none⟩ v2).setCell ⟨r, 3, none⟩ v3) :=
  (((h.setCell _ (.inr hr)).setCell _ (.inr hr)).setCell _ (.inr hr)).setCell _ (.inr hr)

set_option maxHeartbeats 1000000 in
set_option maxRecDepth 8000 in
theorem made_more (h : Sto w s B n room off L) {F : Fun} {k : Nat} {vv : Value} (hF : DepFrom k n F) (hkn : k < n) (hV : IntsAt w vv (List.range n)) (hVB : ∀ b, vv.ownBlock = some b → b ∉ B) (hr : Bdd.high L + Bdd.cb k + 256 < room ∨ n ≤ 3 ∧ 256 < room)
    (hz' : eqT F (fun _ => false) = false) (ho' : eqT F (fun _ => true) = false)
    (ih : ∀ (w1 : World) (B1 : List Nat) (L1 : List Bdd.Nd) (G : Fun), Sto w1 s B1 n room off L1 → DepFrom (k + 1) n G → IntsAt w1 vv (List.range n) → (∀ b, vv.ownBlock = some b → b ∉ B1) → (Bdd.high L1 + Bdd.cb (k + 1) + 256 < room ∨ n ≤ 3 ∧ 256 < room) →
      Calls Tryz.prog 108 #[.pointer (some ⟨s, 0, none⟩), tv G, vv, .int .i64 ((k : Int) + 1)] w1 (MakePost s n room off B1 L1 w1 (Bdd.cb (k + 1)) G)) :
    Calls Tryz.prog 108 #[.pointer (some ⟨s, 0, none⟩), tv F, vv, .int .i64 (k : Int)] w (MakePost s n room off B L w (Bdd.cb k) F) := by
  have n8 := h.vars.2
  have hk8 : k < 8 := by omega
  have hB := Blk.new w (tcells F) 49
  have FR0 : Fr [] w (w.alloc (.cells (tcells F) 49)) := (Fr.refl [] w).alloc _
  have hBd : Blk (w.alloc (.cells (tcells F) 49)).drew w.heap.size (tcells F) 49 := hB
  have he0 := run_eqT F (fun _ => false)
  have he1 := run_eqT F (fun _ => true)
  obtain ⟨c0, c1, c2, c3⟩ := hBd.cells4
  have HB := Lib.hid hB
  have HF0 := Lib.hid FR0
  have HIH := Lib.hid ih
  have HR := Lib.hid hr
  have HH := Lib.hid h
  have HDF := Lib.hid hF
  have HVB := Lib.hid hVB
  have HV := Lib.hid hV
  clear hB FR0 hBd ih hr h hF hVB
  obtain ⟨ga, ca, rfl, ci⟩ := intsAt_get hV (i := k) (x := k) (List.getElem?_range hkn)
  rw [List.length_range] at *
  clear hV
  go_enter Tryz.func108, Tryz.ntmps108
  go_wp2_with fail
  go_region_held3 (fun w' => w'.cell? ⟨w.heap.size, 0, none⟩ = some (.int .u64 (wd F 0 : Nat)) ∧ w'.cell? ⟨w.heap.size, 1, none⟩ = some (.int .u64 (wd F 1 : Nat)) ∧ w'.cell? ⟨w.heap.size, 2, none⟩ = some (.int .u64 (wd F 2 : Nat)) ∧ w'.cell? ⟨w.heap.size, 3, none⟩ = some (.int .u64 (wd F 3 : Nat))) (go_keep)
    (first
     | (go_at_call 121; (with_reducible refine (tconst_any false _).mono ?_); rintro e w5 ⟨rfl, hA⟩; have H1 := Lib.hid (HB.out.drew.fr hA (by simp)); have G1 := Lib.hid (HF0.out.drew.then hA); obtain ⟨p0, p1, p2, p3⟩ := H1.out.cells4; clear hA c0 c1 c2 c3)
     | (go_at_call 121; (with_reducible refine (tconst_any true _).mono ?_); rintro e w6 ⟨rfl, hA⟩; have H2 := Lib.hid (H1.out.fr hA (by simp)); have G2 := Lib.hid (G1.out.then hA); obtain ⟨q0, q1, q2, q3⟩ := H2.out.cells4; clear hA p0 p1 p2 p3))
  clear he0 he1 hz' ho'
  go_upto_region 7 with fail
  go_cut [10, 11] (fun s10 s11 wx => ∃ b10 b11 : Nat, s10 = .pointer (some ⟨b10, 0, none⟩) ∧ s11 = .pointer (some ⟨b11, 0, none⟩) ∧ Blk wx b10 (tcells (fixF F k false)) 49 ∧ Blk wx b11 (tcells (fixF F k true)) 49 ∧ Fr [] w wx ∧ w.heap.size ≤ b11)
  case rest =>
    obtain ⟨b10, b11, rfl, rfl, hB0, hB1, hFx, hlb⟩ := hcut
    have he2 := run_eqT (fixF F k false) (fixF F k true)
    obtain ⟨x0, x1, x2, x3⟩ := hB0.cells4
    obtain ⟨y0, y1, y2, y3⟩ := hB1.cells4
    have HB1 := Lib.hid hB1
    have HFX := Lib.hid hFx
    have hb11 : b11 ∉ B := fun hb => by have := HH.out.mem.2 _ hb; omega
    have HS := Lib.hid (HH.out.fr hFx (by simp))
    have HVx := Lib.hid (show IntsAt wc (.slice (some ⟨ga, 0, none⟩) n ca) (List.range n) from row_fr HV.out hFx (by simp))
    have HE := Lib.hid (HS.out.evo hFx (by simp))
    have hcb := Bdd.cb_two (l := k) (l1 := k + 1) (l2 := k + 1) (by omega) (by omega)
    clear hB0 hB1 hFx hlb H1 H2 G1 G2 q0 q1 q2 q3 HB HF0
    by_cases hx : eqT (fixF F k false) (fixF F k true) = true
    · have hsame : ∀ y, fixF F k false y = F y := fun y => by
        have e := (eqT_dep (fixF_dep (HDF.out.dep.mono n8) k false) (fixF_dep (HDF.out.dep.mono n8) k true)).1 hx y
        rw [← fix_split F k y, ← e]; split <;> rfl
      have HSM := Lib.hid hsame
      clear hsame
      go_wp2_with fail
      clear he2 hx
      with_reducible refine (HIH.out wc B L (fixF F k false) HS.out (HDF.out.fix false) HVx.out HVB.out (by have := HR.out; omega)).mono ?_
      rintro e w1 ⟨h1, B1, L1, rfl, hev, hden⟩
      have hfin : MakePost s n room off B L w (Bdd.cb k) F (.returned (.tuple #[.int .u32 (h1 : Int), .bool true])) w1 := MakePost.from HE.out ⟨h1, B1, L1, rfl, hev, hden⟩ (by omega) HSM.out
      have HFIN := Lib.hid hfin
      clear hfin hev hden
      go_wp2
      go_ret2
      exact HFIN.out
    · have hx' : eqT (fixF F k false) (fixF F k true) = false := by simpa using hx
      clear hx
      go_wp2_with fail
      clear he2 hx'
      with_reducible refine (HIH.out wc B L (fixF F k false) HS.out (HDF.out.fix false) HVx.out HVB.out (by have := HR.out; omega)).mono ?_
      rintro e w1 ⟨h1, B1, L1, rfl, hev, hden⟩
      have hBq := HB1.out.fr hev.fr hb11
      obtain ⟨z0, z1, z2, z3⟩ := hBq.cells4
      have HV1 := Lib.hid (show IntsAt w1 (.slice (some ⟨ga, 0, none⟩) n ca) (List.range n) from row_fr HVx.out hev.fr HVB.out)
      have HVB1 := Lib.hid (show ∀ b, (Value.slice (some ⟨ga, 0, none⟩) n ca).ownBlock = some b → b ∉ B1 from fun b hb => not_in hev (HVB.out b hb) (row_lt HVx.out hb))
      have hhi := hev.gr.hi
      have HEV := Lib.hid hev
      have HDN := Lib.hid hden
      clear hev hden hBq x0 x1 x2 x3 y0 y1 y2 y3
      go_wp2_with fail
      with_reducible refine (HIH.out w1 B1 L1 (fixF F k true) HEV.out.sto (HDF.out.fix true) HV1.out HVB1.out (by have := HR.out; omega)).mono ?_
      rintro e w2 ⟨h2, B2, L2, rfl, hev2, hden2⟩
      have hhi2 := hev2.gr.hi
      have hd1 := HDN.out.more HEV.out.gr.wf hev2.gr
      have l1 := den_lev hev2.gr.wf hd1 (show k + 1 ≤ n by omega) (HDF.out.fix false)
      have l2 := den_lev hev2.gr.wf hden2 (show k + 1 ≤ n by omega) (HDF.out.fix true)
      have HEV2 := Lib.hid hev2
      have HD1 := Lib.hid hd1
      have HD2 := Lib.hid hden2
      clear hev2 hden2 hd1 z0 z1 z2 z3
      go_wp2_with fail
      refine (sto_mk HEV2.out.sto k h1 h2 hkn HD1.out.1 HD2.out.1 (by omega) (by omega)).mono ?_
      intro e w3 hp
      obtain ⟨B3, L3, h3, hev3, rfl, hm⟩ := OpPost.ok hp (by have := HR.out; unfold mkc; omega)
      have hfin : MakePost s n room off B L w (Bdd.cb k) F (.returned (.tuple #[.int .u32 (h3 : Int), .bool true])) w3 :=
        ⟨h3, B3, L3, rfl, (((HE.out.trans HEV.out).trans HEV2.out).trans hev3).mono (by unfold mkc; omega), hm.1, fun y => by
          rw [hm.2, HD1.out.2, HD2.out.2]; exact fix_split F k y⟩
      have HFIN := Lib.hid hfin
      clear hfin hev3 hm hp
      go_wp2
      go_ret2
      exact HFIN.out
  have H2' := Lib.hid (H2.out.drew)
  have G2' := Lib.hid G2.out.drew
  obtain ⟨m0, m1, m2, m3⟩ := H2'.out.cells4
  have vm := G2'.out.cell ci (by simp)
  have vm6 := G2.out.cell ci (by simp)
  obtain ⟨W0, hW0⟩ : ∃ W, W = w6.drew := ⟨_, rfl⟩
  have hsz : W0.heap.size = w6.heap.size := by rw [hW0]; rfl
  have ha : ga < w6.heap.size := lt_of_cell vm; have hb : w.heap.size < w6.heap.size := H2'.out.lt; have nm1 : w6.heap.size ≠ w.heap.size := (by omega); have nm2 : w6.heap.size ≠ ga := (by omega); have nm3 : w6.heap.size + 1 ≠ w.heap.size := (by omega); have nm4 : w6.heap.size + 1 ≠ ga := (by omega); clear ha hb
  go_region_held3 (fun w' => (w'.cell? ⟨w.heap.size, 0, none⟩ = some (.int .u64 (wd F 0 : Nat)) ∧ w'.cell? ⟨w.heap.size, 1, none⟩ = some (.int .u64 (wd F 1 : Nat)) ∧ w'.cell? ⟨w.heap.size, 2, none⟩ = some (.int .u64 (wd F 2 : Nat)) ∧ w'.cell? ⟨w.heap.size, 3, none⟩ = some (.int .u64 (wd F 3 : Nat))) ∧ w'.cell? ⟨ga, k, none⟩ = some (.int .i64 (k : Int))) (go_keep)
    (first
     | (go_at_call 107; (with_reducible refine (tfix_any F k false _ hk8).mono ?_); rintro e w7 ⟨rfl, hA⟩; have H3 := Lib.hid (show Blk w7 w.heap.size (tcells F) 49 from (by first | exact H2'.out.fr hA (by simp) | exact (H2'.out.alloc _).fr hA (by simp) | exact ((H2'.out.alloc _).alloc _).fr hA (by simp))); have G3 := Lib.hid (show Fr [] w w7 from (by first | exact G2'.out.then hA | exact (G2'.out.alloc _).then hA | exact ((G2'.out.alloc _).alloc _).then hA)); obtain ⟨r0, r1, r2, r3⟩ := H3.out.cells4; have vr := G3.out.cell ci (by simp); (try (have hN : Blk w7 w6.heap.size #[.int .u64 0, .int .u64 0, .int .u64 0, .int .u64 0] 49 := (by first | exact (Blk.new w6 #[.int .u64 0, .int .u64 0, .int .u64 0, .int .u64 0] 49).drew.fr hA (by simp) | exact ((Blk.new w6 #[.int .u64 0, .int .u64 0, .int .u64 0, .int .u64 0] 49).alloc _).drew.fr hA (by simp)); have AM := Lib.hid hN; have AML := hN.lt; have AMK := Nat.ne_of_lt hN.lt; have AMJ := Nat.ne_of_gt hN.lt; have AMc0 := hN.cell 0 (v := .int .u64 0) rfl; have AMf0 := hN.free 0; have AMc1 := hN.cell 1 (v := .int .u64 0) rfl; have AMf1 := hN.free 1; have AMc2 := hN.cell 2 (v := .int .u64 0) rfl; have AMf2 := hN.free 2; have AMc3 := hN.cell 3 (v := .int .u64 0) rfl; have AMf3 := hN.free 3; clear hN)); (try (have hN : Blk w7 (w6.heap.size + 1) #[.int .u64 0, .int .u64 0, .int .u64 0, .int .u64 0] 49 := (by have hq := Blk.new (w6.alloc (.cells #[.int .u64 0, .int .u64 0, .int .u64 0, .int .u64 0] 49)) #[.int .u64 0, .int .u64 0, .int .u64 0, .int .u64 0] 49; rw [World.size_alloc] at hq; exact hq.drew.fr hA (by simp)); have AN := Lib.hid hN; have ANL := hN.lt; have ANK := Nat.ne_of_lt hN.lt; have ANJ := Nat.ne_of_gt hN.lt; have ANc0 := hN.cell 0 (v := .int .u64 0) rfl; have ANf0 := hN.free 0; have ANc1 := hN.cell 1 (v := .int .u64 0) rfl; have ANf1 := hN.free 1; have ANc2 := hN.cell 2 (v := .int .u64 0) rfl; have ANf2 := hN.free 2; have ANc3 := hN.cell 3 (v := .int .u64 0) rfl; have ANf3 := hN.free 3; clear hN)); have ha : ga < w7.heap.size := lt_of_cell vr; have hb : w.heap.size < w7.heap.size := H3.out.lt; have nr1 : w7.heap.size ≠ w.heap.size := (by omega); have nr2 : w7.heap.size ≠ ga := (by omega); have nr3 : w7.heap.size + 1 ≠ w.heap.size := (by omega); have nr4 : w7.heap.size + 1 ≠ ga := (by omega); clear ha hb; clear hA m0 m1 m2 m3)
     | (go_at_call 107; (with_reducible refine (tfix_any F k true _ hk8).mono ?_); rintro e w8 ⟨rfl, hA⟩; have H4 := Lib.hid (show Blk w8 w.heap.size (tcells F) 49 from (by first | exact H3.out.fr hA (by simp) | exact (H3.out.alloc _).fr hA (by simp) | exact ((H3.out.alloc _).alloc _).fr hA (by simp))); have G4 := Lib.hid (show Fr [] w w8 from (by first | exact G3.out.then hA | exact (G3.out.alloc _).then hA | exact ((G3.out.alloc _).alloc _).then hA)); obtain ⟨s0, s1, s2, s3⟩ := H4.out.cells4; have vs := G4.out.cell ci (by simp); (try (have hN : Blk w8 w6.heap.size #[.int .u64 0, .int .u64 0, .int .u64 0, .int .u64 0] 49 := (by first | exact AM.out.fr hA (by simp) | exact (AM.out.alloc _).fr hA (by simp) | exact ((AM.out.alloc _).alloc _).fr hA (by simp)); have BAM := Lib.hid hN; have BAML := hN.lt; have BAMK := Nat.ne_of_lt hN.lt; have BAMJ := Nat.ne_of_gt hN.lt; have BAMc0 := hN.cell 0 (v := .int .u64 0) rfl; have BAMf0 := hN.free 0; have BAMc1 := hN.cell 1 (v := .int .u64 0) rfl; have BAMf1 := hN.free 1; have BAMc2 := hN.cell 2 (v := .int .u64 0) rfl; have BAMf2 := hN.free 2; have BAMc3 := hN.cell 3 (v := .int .u64 0) rfl; have BAMf3 := hN.free 3; clear hN)); (try (have hN : Blk w8 (w6.heap.size + 1) #[.int .u64 0, .int .u64 0, .int .u64 0, .int .u64 0] 49 := (by first | exact AN.out.fr hA (by simp) | exact (AN.out.alloc _).fr hA (by simp) | exact ((AN.out.alloc _).alloc _).fr hA (by simp)); have BAN := Lib.hid hN; have BANL := hN.lt; have BANK := Nat.ne_of_lt hN.lt; have BANJ := Nat.ne_of_gt hN.lt; have BANc0 := hN.cell 0 (v := .int .u64 0) rfl; have BANf0 := hN.free 0; have BANc1 := hN.cell 1 (v := .int .u64 0) rfl; have BANf1 := hN.free 1; have BANc2 := hN.cell 2 (v := .int .u64 0) rfl; have BANf2 := hN.free 2; have BANc3 := hN.cell 3 (v := .int .u64 0) rfl; have BANf3 := hN.free 3; clear hN)); (try (have hN : Blk w8 w7.heap.size #[.int .u64 0, .int .u64 0, .int .u64 0, .int .u64 0] 49 := (by first | exact (Blk.new w7 #[.int .u64 0, .int .u64 0, .int .u64 0, .int .u64 0] 49).fr hA (by simp) | exact ((Blk.new w7 #[.int .u64 0, .int .u64 0, .int .u64 0, .int .u64 0] 49).alloc _).fr hA (by simp)); have BM := Lib.hid hN; have BML := hN.lt; have BMK := Nat.ne_of_lt hN.lt; have BMJ := Nat.ne_of_gt hN.lt; have BMc0 := hN.cell 0 (v := .int .u64 0) rfl; have BMf0 := hN.free 0; have BMc1 := hN.cell 1 (v := .int .u64 0) rfl; have BMf1 := hN.free 1; have BMc2 := hN.cell 2 (v := .int .u64 0) rfl; have BMf2 := hN.free 2; have BMc3 := hN.cell 3 (v := .int .u64 0) rfl; have BMf3 := hN.free 3; clear hN)); (try (have hN : Blk w8 (w7.heap.size + 1) #[.int .u64 0, .int .u64 0, .int .u64 0, .int .u64 0] 49 := (by have hq := Blk.new (w7.alloc (.cells #[.int .u64 0, .int .u64 0, .int .u64 0, .int .u64 0] 49)) #[.int .u64 0, .int .u64 0, .int .u64 0, .int .u64 0] 49; rw [World.size_alloc] at hq; exact hq.fr hA (by simp)); have BN := Lib.hid hN; have BNL := hN.lt; have BNK := Nat.ne_of_lt hN.lt; have BNJ := Nat.ne_of_gt hN.lt; have BNc0 := hN.cell 0 (v := .int .u64 0) rfl; have BNf0 := hN.free 0; have BNc1 := hN.cell 1 (v := .int .u64 0) rfl; have BNf1 := hN.free 1; have BNc2 := hN.cell 2 (v := .int .u64 0) rfl; have BNf2 := hN.free 2; have BNc3 := hN.cell 3 (v := .int .u64 0) rfl; have BNf3 := hN.free 3; clear hN)); have ha : ga < w8.heap.size := lt_of_cell vs; have hb : w.heap.size < w8.heap.size := H4.out.lt; have ns1 : w8.heap.size ≠ w.heap.size := (by omega); have ns2 : w8.heap.size ≠ ga := (by omega); have ns3 : w8.heap.size + 1 ≠ w.heap.size := (by omega); have ns4 : w8.heap.size + 1 ≠ ga := (by omega); clear ha hb; clear hA r0 r1 r2 r3))
  all_goals
    go_wp2_with fail
    go_meet
    refine ⟨_, _, rfl, rfl, ?_, ?_, ?_, ?_⟩
    · first
        | with_reducible exact (Blk.new w8 _ _).alloc _
        | with_reducible exact Blk.new' (by simp)
        | with_reducible exact (BM.out.fourZ).alloc _
        | with_reducible exact (BN.out.fourZ).alloc _
        | with_reducible exact (BAM.out.fourZ).alloc _
        | with_reducible exact (BAN.out.fourZ).alloc _
        | with_reducible exact (BM.out.fourZ).far4 (by omega)
        | with_reducible exact (BN.out.fourZ).far4 (by omega)
        | with_reducible exact (BAM.out.fourZ).far4 (by omega)
        | with_reducible exact (BAN.out.fourZ).far4 (by omega)
        | with_reducible exact (BM.out.far4 (by omega)).fourZ
        | with_reducible exact (BN.out.far4 (by omega)).fourZ
        | with_reducible exact (BAM.out.far4 (by omega)).fourZ
        | with_reducible exact (BAN.out.far4 (by omega)).fourZ
    · first
        | with_reducible exact (Blk.new w8 _ _).alloc _
        | with_reducible exact Blk.new' (by simp)
        | with_reducible exact (BM.out.fourZ).alloc _
        | with_reducible exact (BN.out.fourZ).alloc _
        | with_reducible exact (BAM.out.fourZ).alloc _
        | with_reducible exact (BAN.out.fourZ).alloc _
        | with_reducible exact (BM.out.fourZ).far4 (by omega)
        | with_reducible exact (BN.out.fourZ).far4 (by omega)
        | with_reducible exact (BAM.out.fourZ).far4 (by omega)
        | with_reducible exact (BAN.out.fourZ).far4 (by omega)
        | with_reducible exact (BM.out.far4 (by omega)).fourZ
        | with_reducible exact (BN.out.far4 (by omega)).fourZ
        | with_reducible exact (BAM.out.far4 (by omega)).fourZ
        | with_reducible exact (BAN.out.far4 (by omega)).fourZ
    · have q6 : w.heap.size < w6.heap.size := H2.out.lt
      have q7 : w.heap.size < w7.heap.size := H3.out.lt
      first
        | with_reducible exact (G4.out.alloc _).alloc _
        | with_reducible exact (G4.out.set4 (by omega)).alloc _
        | with_reducible exact (G4.out.set4 (by omega)).set4 (by omega)
    · have q6 : w.heap.size < w6.heap.size := H2.out.lt
      have q7 : w.heap.size < w7.heap.size := H3.out.lt
      have q8 : w.heap.size < w8.heap.size := H4.out.lt
      omega

theorem pmade_any : ∀ (m : Nat) {w : World} {B : List Nat} {L : List Bdd.Nd} {F : Fun} {k : Nat} {vv : Value}, n - k ≤ m → Sto w s B n room off L → DepFrom k n F → k ≤ n → IntsAt w vv (List.range n) → (∀ b, vv.ownBlock = some b → b ∉ B) → (Bdd.high L + Bdd.cb k + 256 < room ∨ n ≤ 3 ∧ 256 < room) →
    Calls Tryz.prog 108 #[.pointer (some ⟨s, 0, none⟩), tv F, vv, .int .i64 (k : Int)] w (MakePost s n room off B L w (Bdd.cb k) F) := by
  intro m
  induction m with
  | zero =>
    intro w B L F k vv hm h hF hk hV hVB hr
    have n8 := h.vars.2
    have e : k = n := by omega
    have hc : eqT F (fun _ => false) = true ∨ eqT F (fun _ => true) = true := by
      subst e
      cases hb : F (fun _ => false)
      · exact .inl (eqT_iff.2 fun x _ => by rw [hF.const (asg x) (fun _ => false), hb])
      · exact .inr (eqT_iff.2 fun x _ => by rw [hF.const (asg x) (fun _ => false), hb])
    by_cases hz : eqT F (fun _ => false) = true
    · refine (made_zero F _ _ _ w hz).mono ?_
      rintro e w' ⟨rfl, hf⟩
      exact ⟨0, B, L, rfl, ((h.fr hf (by simp)).evo hf (by simp)).mono (Nat.zero_le _), Den.zero.fn fun y => ((eqT_dep (hF.dep.mono n8) (fun _ _ _ => rfl)).1 hz y).symm⟩
    · have hz' : eqT F (fun _ => false) = false := by simpa using hz
      have ho := hc.resolve_left hz
      refine (made_one F _ _ _ w hz' ho).mono ?_
      rintro e w' ⟨rfl, hf⟩
      exact ⟨1, B, L, rfl, ((h.fr hf (by simp)).evo hf (by simp)).mono (Nat.zero_le _), Den.one.fn fun y => ((eqT_dep (hF.dep.mono n8) (fun _ _ _ => rfl)).1 ho y).symm⟩
  | succ m ih =>
    intro w B L F k vv hm h hF hk hV hVB hr
    have n8 := h.vars.2
    by_cases hz : eqT F (fun _ => false) = true
    · refine (made_zero F _ _ _ w hz).mono ?_
      rintro e w' ⟨rfl, hf⟩
      exact ⟨0, B, L, rfl, ((h.fr hf (by simp)).evo hf (by simp)).mono (Nat.zero_le _), Den.zero.fn fun y => ((eqT_dep (hF.dep.mono n8) (fun _ _ _ => rfl)).1 hz y).symm⟩
    · have hz' : eqT F (fun _ => false) = false := by simpa using hz
      by_cases ho : eqT F (fun _ => true) = true
      · refine (made_one F _ _ _ w hz' ho).mono ?_
        rintro e w' ⟨rfl, hf⟩
        exact ⟨1, B, L, rfl, ((h.fr hf (by simp)).evo hf (by simp)).mono (Nat.zero_le _), Den.one.fn fun y => ((eqT_dep (hF.dep.mono n8) (fun _ _ _ => rfl)).1 ho y).symm⟩
      · have ho' : eqT F (fun _ => true) = false := by simpa using ho
        have hkn : k < n := by
          rcases Nat.lt_or_ge k n with hlt | hge
          · exact hlt
          · exfalso
            have e : k = n := by omega
            rw [e] at hF
            cases hb : F (fun _ => false)
            · exact hz (eqT_iff.2 fun x _ => by rw [hF.const (asg x) (fun _ => false), hb])
            · exact ho (eqT_iff.2 fun x _ => by rw [hF.const (asg x) (fun _ => false), hb])
        refine made_more h hF hkn hV hVB hr hz' ho' fun w1 B1 L1 G h1 hG hV1 hVB1 hr1 => ?_
        have := ih (w := w1) (B := B1) (L := L1) (F := G) (k := k + 1) (vv := vv) (by omega) h1 hG (by omega) hV1 hVB1 hr1
        rw [show ((k : Int) + 1) = ((k + 1 : Nat) : Int) by omega]; exact this
end
end Go.Proofs.YtiojnjihbidbiaaGreat
