/- WordOrders, walked. -/
import Derived.Test.YtiojnjihbidbiaaGreatWordC
namespace Go.Proofs.YtiojnjihbidbiaaGreat
open Go.RowKit
attribute [local go_sem ↓] Go.wp_at_zero Go.wp_at_succ
set_option linter.unusedVariables false

section
variable {w w' : World} {s n room : Nat} {off : Bool} {B : List Nat} {L : List Bdd.Nd}
theorem or_word (h : Sto w s B n room off L) {a b : Nat} {F G : Fn} (da : Den n L a F) (db : Den n L b G) (hr : Bdd.high L + 31 + 256 < room ∨ n ≤ 3 ∧ 256 < room) :
    Calls Tryz.prog 36 #[.pointer (some ⟨s, 0, none⟩), .int .u32 (a : Int), .int .u32 (b : Int)] w fun e w' => ∃ (k : Nat) (B' : List Nat) (L' : List Bdd.Nd), e = .returned (.tuple #[.int .u32 (k : Int), .int .i64 0]) ∧ Evo s n room off B L w B' L' w' 31 ∧ Den n L' k (fun y => F y || G y) :=
  (or_any h da db).mono fun e w' hp => by
    obtain ⟨B1, L1, h1, hev, e1, q1⟩ := OpPost.ok hp hr
    exact ⟨h1, B1, L1, e1, hev, q1⟩
theorem and_word (h : Sto w s B n room off L) {a b : Nat} {F G : Fn} (da : Den n L a F) (db : Den n L b G) (hr : Bdd.high L + 31 + 256 < room ∨ n ≤ 3 ∧ 256 < room) :
    Calls Tryz.prog 37 #[.pointer (some ⟨s, 0, none⟩), .int .u32 (a : Int), .int .u32 (b : Int)] w fun e w' => ∃ (k : Nat) (B' : List Nat) (L' : List Bdd.Nd), e = .returned (.tuple #[.int .u32 (k : Int), .int .i64 0]) ∧ Evo s n room off B L w B' L' w' 31 ∧ Den n L' k (fun y => F y && G y) :=
  (and_any h da db).mono fun e w' hp => by
    obtain ⟨B1, L1, h1, hev, e1, q1⟩ := OpPost.ok hp hr
    exact ⟨h1, B1, L1, e1, hev, q1⟩
end

/-- Just one of less, greater, the same. -/
theorem tri (F G : Nat → Fn) (y : Nat → Bool) : ∀ j, (cry subC F G j y = true ∧ cry subC G F j y = false ∧ eqF F G j y = false) ∨ (cry subC F G j y = false ∧ cry subC G F j y = true ∧ eqF F G j y = false) ∨ (cry subC F G j y = false ∧ cry subC G F j y = false ∧ eqF F G j y = true)
  | 0 => .inr (.inr ⟨rfl, rfl, rfl⟩)
  | j + 1 => by
    simp only [cry, eqF, subC]
    rcases tri F G y j with ⟨h1, h2, h3⟩ | ⟨h1, h2, h3⟩ | ⟨h1, h2, h3⟩ <;> rw [h1, h2, h3] <;> cases F j y <;> cases G j y <;> simp
theorem tri_any (F G : Nat → Fn) (y : Nat → Bool) (k : Nat) : ((cry subC F G k y || cry subC G F k y) || eqF F G k y) = true := by
  rcases tri F G y k with ⟨h1, h2, h3⟩ | ⟨h1, h2, h3⟩ | ⟨h1, h2, h3⟩ <;> rw [h1, h2, h3] <;> rfl
theorem tri_eq (F G : Nat → Fn) (y : Nat → Bool) (k : Nat) : ((cry subC F G k y || cry subC G F k y) && eqF F G k y) = false := by
  rcases tri F G y k with ⟨h1, h2, h3⟩ | ⟨h1, h2, h3⟩ | ⟨h1, h2, h3⟩ <;> rw [h1, h2, h3] <;> rfl
theorem tri_two (F G : Nat → Fn) (y : Nat → Bool) (k : Nat) : (cry subC F G k y && cry subC G F k y) = false := by
  rcases tri F G y k with ⟨h1, h2, h3⟩ | ⟨h1, h2, h3⟩ | ⟨h1, h2, h3⟩ <;> rw [h1, h2] <;> rfl
theorem cry_congr (bc : Bool → Bool → Bool → Bool) {F G F' G' : Nat → Fn} {y : Nat → Bool} (h1 : ∀ i, F i y = F' i y) (h2 : ∀ i, G i y = G' i y) : ∀ j, cry bc F G j y = cry bc F' G' j y
  | 0 => rfl
  | j + 1 => by simp only [cry, cry_congr bc h1 h2 j, h1, h2]
theorem tri_ite (F G : Nat → Fn) (y : Nat → Bool) (k : Nat) : cry subC (iteF (cry subC F G k) G F) (iteF (cry subC F G k) F G) k y = false := by
  by_cases h : cry subC F G k y = true
  · rw [cry_congr subC (F' := G) (G' := F) (fun i => by simp [iteF, h]) (fun i => by simp [iteF, h])]
    rcases tri F G y k with ⟨h1, h2, h3⟩ | ⟨h1, h2, h3⟩ | ⟨h1, h2, h3⟩
    · exact h2
    · rw [h1] at h; cases h
    · exact h2
  · rw [cry_congr subC (F' := F) (G' := G) (fun i => by simp [iteF, h]) (fun i => by simp [iteF, h])]
    simpa using h

set_option maxHeartbeats 4000000 in
set_option maxRecDepth 4000 in
theorem wordOrders (a : Nat) (w : World) (ha : a < 256) :
    Calls Tryz.prog 5 #[.int .u8 (a : Int)] w fun e w' => e = .returned (.bool true) ∧ Below w.heap.size w w' := by
  go_enter Tryz.func5, Tryz.ntmps5
  go_wp2_with fail
  refine (known26 _).mono ?_
  rintro e w0 ⟨rfl, hF0⟩
  go_wp2_with fail
  obtain ⟨k, hk, k1, k4⟩ : ∃ k : Nat, (a : Int) % 4 + 1 = (k : Int) ∧ 1 ≤ k ∧ k ≤ 4 := ⟨a % 4 + 1, by omega, by omega, by omega⟩
  rw [hk]
  clear hk
  refine (words_any k _ k1 k4).mono ?_
  rintro e w1 ⟨s, v_a, v_b, h_a, h_b, B1, L1, rfl, S1, A1_a, A1_b, l_a, l_b, D1_a, D1_b, hh1⟩
  obtain ⟨FA, hFA⟩ : ∃ F : Nat → Fn, F = (fun i y => y (2 * i)) := ⟨_, rfl⟩
  obtain ⟨FB, hFB⟩ : ∃ F : Nat → Fn, F = (fun i y => y (2 * i + 1)) := ⟨_, rfl⟩
  rw [← hFA] at D1_a
  rw [← hFB] at D1_b
  clear hFA hFB
  go_wp2_with fail
  refine (less_word S1.sto A1_a.row A1_b.row A1_a.own A1_b.own l_a l_b k1 (by omega) D1_a D1_b (by omega)).mono ?_
  rintro e w2 ⟨k_l, B2, L2, rfl, hev, K2_l⟩
  have S2 := S1.evo hev
  have A2_a := A1_a.evo hev
  have D2_a := D1_a.more S1.sto.wf hev.gr
  have A2_b := A1_b.evo hev
  have D2_b := D1_b.more S1.sto.wf hev.gr
  clear A1_a D1_a A1_b D1_b
  have hh2 : Bdd.high L2 ≤ 248 + 217 * k := by have := hev.gr.hi; omega
  clear hev S1 hh1
  go_wp2_with fail
  refine (less_word S2.sto A2_b.row A2_a.row A2_b.own A2_a.own l_b l_a k1 (by omega) D2_b D2_a (by omega)).mono ?_
  rintro e w3 ⟨k_m, B3, L3, rfl, hev, K3_m⟩
  have S3 := S2.evo hev
  have A3_a := A2_a.evo hev
  have D3_a := D2_a.more S2.sto.wf hev.gr
  have A3_b := A2_b.evo hev
  have D3_b := D2_b.more S2.sto.wf hev.gr
  have K3_l := K2_l.more S2.sto.wf hev.gr
  clear A2_a D2_a A2_b D2_b K2_l
  have hh3 : Bdd.high L3 ≤ 248 + 434 * k := by have := hev.gr.hi; omega
  clear hev S2 hh2
  go_wp2_with fail
  refine (same_word S3.sto A3_a.row A3_b.row A3_a.own A3_b.own l_a l_b k1 (by omega) D3_a D3_b (by omega)).mono ?_
  rintro e w4 ⟨k_e, B4, L4, rfl, hev, K4_e⟩
  have S4 := S3.evo hev
  have A4_a := A3_a.evo hev
  have D4_a := D3_a.more S3.sto.wf hev.gr
  have A4_b := A3_b.evo hev
  have D4_b := D3_b.more S3.sto.wf hev.gr
  have K4_l := K3_l.more S3.sto.wf hev.gr
  have K4_m := K3_m.more S3.sto.wf hev.gr
  clear A3_a D3_a A3_b D3_b K3_l K3_m
  have hh4 : Bdd.high L4 ≤ 248 + 527 * k := by have := hev.gr.hi; omega
  clear hev S3 hh3
  go_wp2_with fail
  refine (sub_word S4.sto A4_a.row A4_b.row A4_a.own A4_b.own l_a l_b k1 (by omega) D4_a D4_b (by omega)).mono ?_
  rintro e w5 ⟨v_u, h_u, k_u, B5, L5, rfl, hW, l_u, D5_u, K5_u⟩
  have S5 := S4.evo hW.evo
  have A5_a := A4_a.evo hW.evo
  have D5_a := D4_a.more S4.sto.wf hW.evo.gr
  have A5_b := A4_b.evo hW.evo
  have D5_b := D4_b.more S4.sto.wf hW.evo.gr
  have K5_l := K4_l.more S4.sto.wf hW.evo.gr
  have K5_m := K4_m.more S4.sto.wf hW.evo.gr
  have K5_e := K4_e.more S4.sto.wf hW.evo.gr
  clear A4_a D4_a A4_b D4_b K4_l K4_m K4_e
  have A5_u := hW.at
  have hh5 : Bdd.high L5 ≤ 248 + 744 * k := by have := hW.evo.gr.hi; omega
  clear hW S4 hh4
  go_wp2_with fail
  refine (ite_word S5.sto K5_l A5_a.row A5_b.row A5_a.own A5_b.own l_a l_b k1 (by omega) D5_a D5_b (by omega)).mono ?_
  rintro e w6 ⟨v_lo, h_lo, B6, L6, rfl, hW, l_lo, D6_lo⟩
  have S6 := S5.evo hW.evo
  have A6_a := A5_a.evo hW.evo
  have D6_a := D5_a.more S5.sto.wf hW.evo.gr
  have A6_b := A5_b.evo hW.evo
  have D6_b := D5_b.more S5.sto.wf hW.evo.gr
  have A6_u := A5_u.evo hW.evo
  have D6_u := D5_u.more S5.sto.wf hW.evo.gr
  have K6_l := K5_l.more S5.sto.wf hW.evo.gr
  have K6_m := K5_m.more S5.sto.wf hW.evo.gr
  have K6_e := K5_e.more S5.sto.wf hW.evo.gr
  have K6_u := K5_u.more S5.sto.wf hW.evo.gr
  clear A5_a D5_a A5_b D5_b A5_u D5_u K5_l K5_m K5_e K5_u
  have A6_lo := hW.at
  have hh6 : Bdd.high L6 ≤ 248 + 775 * k := by have := hW.evo.gr.hi; omega
  clear hW S5 hh5
  go_wp2_with fail
  refine (ite_word S6.sto K6_l A6_b.row A6_a.row A6_b.own A6_a.own l_b l_a k1 (by omega) D6_b D6_a (by omega)).mono ?_
  rintro e w7 ⟨v_hi, h_hi, B7, L7, rfl, hW, l_hi, D7_hi⟩
  have S7 := S6.evo hW.evo
  have A7_a := A6_a.evo hW.evo
  have D7_a := D6_a.more S6.sto.wf hW.evo.gr
  have A7_b := A6_b.evo hW.evo
  have D7_b := D6_b.more S6.sto.wf hW.evo.gr
  have A7_u := A6_u.evo hW.evo
  have D7_u := D6_u.more S6.sto.wf hW.evo.gr
  have A7_lo := A6_lo.evo hW.evo
  have D7_lo := D6_lo.more S6.sto.wf hW.evo.gr
  have K7_l := K6_l.more S6.sto.wf hW.evo.gr
  have K7_m := K6_m.more S6.sto.wf hW.evo.gr
  have K7_e := K6_e.more S6.sto.wf hW.evo.gr
  have K7_u := K6_u.more S6.sto.wf hW.evo.gr
  clear A6_a D6_a A6_b D6_b A6_u D6_u A6_lo D6_lo K6_l K6_m K6_e K6_u
  have A7_hi := hW.at
  have hh7 : Bdd.high L7 ≤ 248 + 806 * k := by have := hW.evo.gr.hi; omega
  clear hW S6 hh6
  go_wp2_with fail
  refine (less_word S7.sto A7_hi.row A7_lo.row A7_hi.own A7_lo.own l_hi l_lo k1 (by omega) D7_hi D7_lo (by omega)).mono ?_
  rintro e w8 ⟨k_o, B8, L8, rfl, hev, K8_o⟩
  have S8 := S7.evo hev
  have A8_a := A7_a.evo hev
  have D8_a := D7_a.more S7.sto.wf hev.gr
  have A8_b := A7_b.evo hev
  have D8_b := D7_b.more S7.sto.wf hev.gr
  have A8_u := A7_u.evo hev
  have D8_u := D7_u.more S7.sto.wf hev.gr
  have A8_lo := A7_lo.evo hev
  have D8_lo := D7_lo.more S7.sto.wf hev.gr
  have A8_hi := A7_hi.evo hev
  have D8_hi := D7_hi.more S7.sto.wf hev.gr
  have K8_l := K7_l.more S7.sto.wf hev.gr
  have K8_m := K7_m.more S7.sto.wf hev.gr
  have K8_e := K7_e.more S7.sto.wf hev.gr
  have K8_u := K7_u.more S7.sto.wf hev.gr
  clear A7_a D7_a A7_b D7_b A7_u D7_u A7_lo D7_lo A7_hi D7_hi K7_l K7_m K7_e K7_u
  have hh8 : Bdd.high L8 ≤ 248 + 1023 * k := by have := hev.gr.hi; omega
  clear hev S7 hh7
  go_wp2_with fail
  refine (or_word S8.sto K8_l K8_m (by omega)).mono ?_
  rintro e w9 ⟨k_x, B9, L9, rfl, hev, K9_x⟩
  have S9 := S8.evo hev
  have A9_a := A8_a.evo hev
  have D9_a := D8_a.more S8.sto.wf hev.gr
  have A9_b := A8_b.evo hev
  have D9_b := D8_b.more S8.sto.wf hev.gr
  have A9_u := A8_u.evo hev
  have D9_u := D8_u.more S8.sto.wf hev.gr
  have A9_lo := A8_lo.evo hev
  have D9_lo := D8_lo.more S8.sto.wf hev.gr
  have A9_hi := A8_hi.evo hev
  have D9_hi := D8_hi.more S8.sto.wf hev.gr
  have K9_l := K8_l.more S8.sto.wf hev.gr
  have K9_m := K8_m.more S8.sto.wf hev.gr
  have K9_e := K8_e.more S8.sto.wf hev.gr
  have K9_u := K8_u.more S8.sto.wf hev.gr
  have K9_o := K8_o.more S8.sto.wf hev.gr
  clear A8_a D8_a A8_b D8_b A8_u D8_u A8_lo D8_lo A8_hi D8_hi K8_l K8_m K8_e K8_u K8_o
  have hh9 : Bdd.high L9 ≤ 279 + 1023 * k := by have := hev.gr.hi; omega
  clear hev S8 hh8
  go_wp2_with fail
  refine (or_word S9.sto K9_x K9_e (by omega)).mono ?_
  rintro e w10 ⟨k_y, B10, L10, rfl, hev, K10_y⟩
  have S10 := S9.evo hev
  have A10_a := A9_a.evo hev
  have D10_a := D9_a.more S9.sto.wf hev.gr
  have A10_b := A9_b.evo hev
  have D10_b := D9_b.more S9.sto.wf hev.gr
  have A10_u := A9_u.evo hev
  have D10_u := D9_u.more S9.sto.wf hev.gr
  have A10_lo := A9_lo.evo hev
  have D10_lo := D9_lo.more S9.sto.wf hev.gr
  have A10_hi := A9_hi.evo hev
  have D10_hi := D9_hi.more S9.sto.wf hev.gr
  have K10_l := K9_l.more S9.sto.wf hev.gr
  have K10_m := K9_m.more S9.sto.wf hev.gr
  have K10_e := K9_e.more S9.sto.wf hev.gr
  have K10_u := K9_u.more S9.sto.wf hev.gr
  have K10_o := K9_o.more S9.sto.wf hev.gr
  have K10_x := K9_x.more S9.sto.wf hev.gr
  clear A9_a D9_a A9_b D9_b A9_u D9_u A9_lo D9_lo A9_hi D9_hi K9_l K9_m K9_e K9_u K9_o K9_x
  have hh10 : Bdd.high L10 ≤ 310 + 1023 * k := by have := hev.gr.hi; omega
  clear hev S9 hh9
  go_wp2_with fail
  refine (and_word S10.sto K10_x K10_e (by omega)).mono ?_
  rintro e w11 ⟨k_z, B11, L11, rfl, hev, K11_z⟩
  have S11 := S10.evo hev
  have A11_a := A10_a.evo hev
  have D11_a := D10_a.more S10.sto.wf hev.gr
  have A11_b := A10_b.evo hev
  have D11_b := D10_b.more S10.sto.wf hev.gr
  have A11_u := A10_u.evo hev
  have D11_u := D10_u.more S10.sto.wf hev.gr
  have A11_lo := A10_lo.evo hev
  have D11_lo := D10_lo.more S10.sto.wf hev.gr
  have A11_hi := A10_hi.evo hev
  have D11_hi := D10_hi.more S10.sto.wf hev.gr
  have K11_l := K10_l.more S10.sto.wf hev.gr
  have K11_m := K10_m.more S10.sto.wf hev.gr
  have K11_e := K10_e.more S10.sto.wf hev.gr
  have K11_u := K10_u.more S10.sto.wf hev.gr
  have K11_o := K10_o.more S10.sto.wf hev.gr
  have K11_x := K10_x.more S10.sto.wf hev.gr
  have K11_y := K10_y.more S10.sto.wf hev.gr
  clear A10_a D10_a A10_b D10_b A10_u D10_u A10_lo D10_lo A10_hi D10_hi K10_l K10_m K10_e K10_u K10_o K10_x K10_y
  have hh11 : Bdd.high L11 ≤ 341 + 1023 * k := by have := hev.gr.hi; omega
  clear hev S10 hh10
  go_wp2_with fail
  refine (and_word S11.sto K11_l K11_m (by omega)).mono ?_
  rintro e w12 ⟨k_w, B12, L12, rfl, hev, K12_w⟩
  have S12 := S11.evo hev
  have A12_a := A11_a.evo hev
  have D12_a := D11_a.more S11.sto.wf hev.gr
  have A12_b := A11_b.evo hev
  have D12_b := D11_b.more S11.sto.wf hev.gr
  have A12_u := A11_u.evo hev
  have D12_u := D11_u.more S11.sto.wf hev.gr
  have A12_lo := A11_lo.evo hev
  have D12_lo := D11_lo.more S11.sto.wf hev.gr
  have A12_hi := A11_hi.evo hev
  have D12_hi := D11_hi.more S11.sto.wf hev.gr
  have K12_l := K11_l.more S11.sto.wf hev.gr
  have K12_m := K11_m.more S11.sto.wf hev.gr
  have K12_e := K11_e.more S11.sto.wf hev.gr
  have K12_u := K11_u.more S11.sto.wf hev.gr
  have K12_o := K11_o.more S11.sto.wf hev.gr
  have K12_x := K11_x.more S11.sto.wf hev.gr
  have K12_y := K11_y.more S11.sto.wf hev.gr
  have K12_z := K11_z.more S11.sto.wf hev.gr
  clear A11_a D11_a A11_b D11_b A11_u D11_u A11_lo D11_lo A11_hi D11_hi K11_l K11_m K11_e K11_u K11_o K11_x K11_y K11_z
  have hh12 : Bdd.high L12 ≤ 372 + 1023 * k := by have := hev.gr.hi; omega
  clear hev S11 hh11
  have e1 : k_y = 1 := K12_y.eq Den.one S12.sto.wf (fun y => tri_any FA FB y k)
  have e2 : k_z = 0 := K12_z.eq Den.zero S12.sto.wf (fun y => tri_eq FA FB y k)
  have e3 : k_w = 0 := K12_w.eq Den.zero S12.sto.wf (fun y => tri_two FA FB y k)
  have e4 : k_u = k_l := K12_u.eq K12_l S12.sto.wf (fun _ => rfl)
  have e5 : k_o = 0 := K12_o.eq Den.zero S12.sto.wf (fun y => tri_ite FA FB y k)
  subst e1 e2 e3 e4 e5
  have hb : Below w.heap.size w w12 := (hF0.then S12.fr).below (Nat.le_refl _) (by simp)
  have HB := Lib.hid hb
  clear hb S12 A12_a D12_a A12_b D12_b A12_u D12_u A12_lo D12_lo A12_hi D12_hi K12_l K12_m K12_e K12_u K12_o K12_x K12_y K12_z K12_w
  go_wp2
  go_ret
  exact ⟨rfl, HB.out⟩

theorem wordOrders_row (a : Int) (w : World) (wa : (Lit.int .u8 a).wf = true) :
    Calls Tryz.prog 5 #[.int .u8 a] w fun e w' => e = .returned (.bool true) ∧ Below w.heap.size w w' := by
  simp [Lit.wf, IntKind.min, IntKind.max, IntKind.signed, IntKind.bits] at wa
  obtain ⟨a, rfl⟩ := Int.eq_ofNat_of_zero_le wa.1
  exact wordOrders a w (by omega)
end Go.Proofs.YtiojnjihbidbiaaGreat
