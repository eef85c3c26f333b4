/- spinneyplay.Make, walked. -/
import Derived.Test.YtiojnjihbidbiaaGreatPlay4
namespace Go.Proofs.YtiojnjihbidbiaaGreat
open Go.RowKit
attribute [local go_sem ↓] Go.wp_at_zero Go.wp_at_succ
set_option linter.unusedVariables false

section
variable {w w' : World} {s n room : Nat} {off : Bool} {B : List Nat} {L : List Bdd.Nd}

set_option maxHeartbeats 1000000 in
set_option maxRecDepth 8000 in
theorem pmake_any (h : Sto w s B n room off L) {F : Fun} (hF : Dep n F) (hr : Bdd.high L + 31 + 256 < room ∨ n ≤ 3 ∧ 256 < room) :
    Calls Tryz.prog 40 #[.pointer (some ⟨s, 0, none⟩), tv F] w (MakePost s n room off B L w 31 F) := by
  have hn := h.vars
  have hB := Blk.new w (tcells F) 49
  have FR0 : Fr [] w (w.alloc (.cells (tcells F) 49)).drew := ((Fr.refl [] w).alloc _).drew
  have hBd : Blk (w.alloc (.cells (tcells F) 49)).drew w.heap.size (tcells F) 49 := hB
  obtain ⟨c0, c1, c2, c3⟩ := hBd.cells4
  have hnb : w.heap.size ∉ B := fun hb => Nat.lt_irrefl _ (h.mem.2 _ hb)
  have HB := Lib.hid hBd
  have HF0 := Lib.hid FR0
  have HH := Lib.hid h
  have HR := Lib.hid hr
  have HD := Lib.hid hF
  clear hB FR0 hBd h hr hF
  go_enter Tryz.func40, Tryz.ntmps40
  go_wp2_with fail
  go_region_held3 (fun w' => w'.cell? ⟨w.heap.size, 0, none⟩ = some (.int .u64 (wd F 0 : Nat)) ∧ w'.cell? ⟨w.heap.size, 1, none⟩ = some (.int .u64 (wd F 1 : Nat)) ∧ w'.cell? ⟨w.heap.size, 2, none⟩ = some (.int .u64 (wd F 2 : Nat)) ∧ w'.cell? ⟨w.heap.size, 3, none⟩ = some (.int .u64 (wd F 3 : Nat))) (go_keep)
    (first
     | (go_at_call 109; refine (sto_order (HH.out.fr HF0.out (by simp))).mono ?_; rintro e w1 ⟨b', rfl, hO, hA, hlt⟩; have H1 := Lib.hid (HB.out.fr hA (by simp)); have G1 := Lib.hid (HF0.out.then hA); have HO := Lib.hid hO; obtain ⟨p0, p1, p2, p3⟩ := H1.out.cells4; clear hA hO c0 c1 c2 c3)
     | (go_at_call 110; refine (all_any b' n _ HO.out hn.1 hn.2).mono ?_; rintro e w2 ⟨va, rfl, hI, hA, hown⟩; have H2 := Lib.hid (H1.out.fr hA (by simp)); have G2 := Lib.hid (G1.out.then hA); have HI := Lib.hid hI; have HOW := Lib.hid (show ∀ k, va.ownBlock = some k → k ∉ B from fun k hk hb => by (have h1 := hown k hk; have h2 := HH.out.mem.2 _ hb; have h3 := G1.out.size; omega)); obtain ⟨q0, q1, q2, q3⟩ := H2.out.cells4; clear hA hI hown p0 p1 p2 p3)
     | (go_at_call 108; refine (pmade_any n (k := 0) (Nat.sub_le _ _) (HH.out.fr G2.out (by simp)) HD.out.from (Nat.zero_le _) HI.out HOW.out (by exact HR.out)).mono ?_; rintro e w3 ⟨h1, B1, L1, rfl, hev, hden⟩; have H3 := Lib.hid (H2.out.fr hev.fr hnb); have HF := Lib.hid (show MakePost s n room off B L w 31 F (.returned (.tuple #[.int .u32 (h1 : Int), .bool true])) w3 from MakePost.from ((HH.out.fr G2.out (by simp)).evo G2.out (by simp)) ⟨h1, B1, L1, rfl, hev, hden⟩ (Nat.le_refl _) (fun _ => rfl)); obtain ⟨r0, r1, r2, r3⟩ := H3.out.cells4; clear hev hden q0 q1 q2 q3))
  go_wp2
  go_ret2
  exact HF.out
end
end Go.Proofs.YtiojnjihbidbiaaGreat
