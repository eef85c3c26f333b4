/- WordSums, walked. -/
import Derived.Test.YtiojnjihbidbiaaGreatWord10
namespace Go.Proofs.YtiojnjihbidbiaaGreat
open Go.RowKit
attribute [local go_sem ↓] Go.wp_at_zero Go.wp_at_succ
set_option linter.unusedVariables false

theorem cry_comm (F G : Nat → Fn) (y : Nat → Bool) : ∀ j, cry addC F G j y = cry addC G F j y
  | 0 => rfl
  | j + 1 => by
    simp only [cry, cry_comm F G y j, addC]
    cases F j y <;> cases G j y <;> rfl
theorem sum_comm (F G : Nat → Fn) (j : Nat) (y : Nat → Bool) : sumF addC F G j y = sumF addC G F j y := by
  simp only [sumF, cry_comm F G y j]
  cases F j y <;> cases G j y <;> rfl
/-- What is lent, taking off what was added, is what was carried. -/
theorem cry_back (F G : Nat → Fn) (y : Nat → Bool) : ∀ j, cry subC (sumF addC F G) G j y = cry addC F G j y
  | 0 => rfl
  | j + 1 => by
    simp only [cry, cry_back F G y j, sumF, addC, subC]
    cases F j y <;> cases G j y <;> cases cry addC F G j y <;> rfl
theorem sum_back (F G : Nat → Fn) (j : Nat) (y : Nat → Bool) : sumF subC (sumF addC F G) G j y = F j y := by
  have h := cry_back F G y j
  show ((sumF addC F G j y ^^ G j y) ^^ cry subC (sumF addC F G) G j y) = F j y
  rw [h]
  show ((((F j y ^^ G j y) ^^ cry addC F G j y) ^^ G j y) ^^ cry addC F G j y) = F j y
  cases F j y <;> cases G j y <;> cases cry addC F G j y <;> rfl
theorem cry_self (F : Nat → Fn) (y : Nat → Bool) : ∀ j, cry subC F F j y = false
  | 0 => rfl
  | j + 1 => by
    simp only [cry, cry_self F y j, subC]
    cases F j y <;> rfl
theorem sum_self (F : Nat → Fn) (j : Nat) (y : Nat → Bool) : sumF subC F F j y = conF 0 j y := by
  simp only [sumF, cry_self F y j, conF]
  cases F j y <;> simp

set_option maxHeartbeats 4000000 in
set_option maxRecDepth 4000 in
theorem wordSums (a x : Nat) (w : World) (ha : a < 256) (hx : x < 256) :
    Calls Tryz.prog 3 #[.int .u8 (a : Int), .int .u8 (x : Int)] w fun e w' => e = .returned (.bool true) ∧ Below w.heap.size w w' := by
  go_enter Tryz.func3, Tryz.ntmps3
  go_wp2_with fail
  refine (known26 _).mono ?_
  rintro e w0 ⟨rfl, hF0⟩
  go_wp2_with fail
  obtain ⟨k, hk, k1, k4⟩ : ∃ k : Nat, (a : Int) % 4 + 1 = (k : Int) ∧ 1 ≤ k ∧ k ≤ 4 := ⟨a % 4 + 1, by omega, by omega, by omega⟩
  rw [hk]
  clear hk
  refine (words_any k _ k1 k4).mono ?_
  rintro e w1 ⟨s, v_a, v_b, h_a, h_b, B1, L1, rfl, S1, A1_a, A1_b, l_a, l_b, D1_a, D1_b, hh1⟩
  obtain ⟨FA, hFA⟩ : ∃ F : Nat → Fn, F = (fun i y => y (2 * i)) := ⟨_, rfl⟩
  obtain ⟨FB, hFB⟩ : ∃ F : Nat → Fn, F = (fun i y => y (2 * i + 1)) := ⟨_, rfl⟩
  rw [← hFA] at D1_a
  rw [← hFB] at D1_b
  clear hFA hFB
  go_wp2_with fail
  refine (add_word S1.sto A1_a.row A1_b.row A1_a.own A1_b.own l_a l_b k1 (by omega) D1_a D1_b (by omega)).mono ?_
  rintro e w2 ⟨v_x, h_x, k_x, B2, L2, rfl, hW, l_x, D2_x, K2_x⟩
  have S2 := S1.evo hW.evo
  have A2_a := A1_a.evo hW.evo
  have D2_a := D1_a.more S1.sto.wf hW.evo.gr
  have A2_b := A1_b.evo hW.evo
  have D2_b := D1_b.more S1.sto.wf hW.evo.gr
  clear A1_a D1_a A1_b D1_b
  have A2_x := hW.at
  have hh2 : Bdd.high L2 ≤ 248 + 217 * k := by have := hW.evo.gr.hi; omega
  clear hW S1 hh1
  go_wp2_with fail
  refine (add_word S2.sto A2_b.row A2_a.row A2_b.own A2_a.own l_b l_a k1 (by omega) D2_b D2_a (by omega)).mono ?_
  rintro e w3 ⟨v_y, h_y, k_y, B3, L3, rfl, hW, l_y, D3_y, K3_y⟩
  have S3 := S2.evo hW.evo
  have A3_a := A2_a.evo hW.evo
  have D3_a := D2_a.more S2.sto.wf hW.evo.gr
  have A3_b := A2_b.evo hW.evo
  have D3_b := D2_b.more S2.sto.wf hW.evo.gr
  have A3_x := A2_x.evo hW.evo
  have D3_x := D2_x.more S2.sto.wf hW.evo.gr
  have K3_x := K2_x.more S2.sto.wf hW.evo.gr
  clear A2_a D2_a A2_b D2_b A2_x D2_x K2_x
  have A3_y := hW.at
  have hh3 : Bdd.high L3 ≤ 248 + 434 * k := by have := hW.evo.gr.hi; omega
  clear hW S2 hh2
  go_wp2_with fail
  refine (sub_word S3.sto A3_x.row A3_b.row A3_x.own A3_b.own l_x l_b k1 (by omega) D3_x D3_b (by omega)).mono ?_
  rintro e w4 ⟨v_z, h_z, k_z, B4, L4, rfl, hW, l_z, D4_z, K4_z⟩
  have S4 := S3.evo hW.evo
  have A4_a := A3_a.evo hW.evo
  have D4_a := D3_a.more S3.sto.wf hW.evo.gr
  have A4_b := A3_b.evo hW.evo
  have D4_b := D3_b.more S3.sto.wf hW.evo.gr
  have A4_x := A3_x.evo hW.evo
  have D4_x := D3_x.more S3.sto.wf hW.evo.gr
  have A4_y := A3_y.evo hW.evo
  have D4_y := D3_y.more S3.sto.wf hW.evo.gr
  have K4_x := K3_x.more S3.sto.wf hW.evo.gr
  have K4_y := K3_y.more S3.sto.wf hW.evo.gr
  clear A3_a D3_a A3_b D3_b A3_x D3_x A3_y D3_y K3_x K3_y
  have A4_z := hW.at
  have hh4 : Bdd.high L4 ≤ 248 + 651 * k := by have := hW.evo.gr.hi; omega
  clear hW S3 hh3
  go_wp2_with fail
  refine (sub_word S4.sto A4_a.row A4_a.row A4_a.own A4_a.own l_a l_a k1 (by omega) D4_a D4_a (by omega)).mono ?_
  rintro e w5 ⟨v_o, h_o, k_o, B5, L5, rfl, hW, l_o, D5_o, K5_o⟩
  have S5 := S4.evo hW.evo
  have A5_a := A4_a.evo hW.evo
  have D5_a := D4_a.more S4.sto.wf hW.evo.gr
  have A5_b := A4_b.evo hW.evo
  have D5_b := D4_b.more S4.sto.wf hW.evo.gr
  have A5_x := A4_x.evo hW.evo
  have D5_x := D4_x.more S4.sto.wf hW.evo.gr
  have A5_y := A4_y.evo hW.evo
  have D5_y := D4_y.more S4.sto.wf hW.evo.gr
  have A5_z := A4_z.evo hW.evo
  have D5_z := D4_z.more S4.sto.wf hW.evo.gr
  have K5_x := K4_x.more S4.sto.wf hW.evo.gr
  have K5_y := K4_y.more S4.sto.wf hW.evo.gr
  have K5_z := K4_z.more S4.sto.wf hW.evo.gr
  clear A4_a D4_a A4_b D4_b A4_x D4_x A4_y D4_y A4_z D4_z K4_x K4_y K4_z
  have A5_o := hW.at
  have hh5 : Bdd.high L5 ≤ 248 + 868 * k := by have := hW.evo.gr.hi; omega
  clear hW S4 hh4
  go_wp2_with fail
  refine (const_any x k _ (by omega) k1 (by omega)).mono ?_
  rintro e w6 ⟨v_n, rfl, hC⟩
  have S6 := S5.then hC.2.1
  have A6_a := A5_a.then hC.2.1
  have D6_a := D5_a
  have A6_b := A5_b.then hC.2.1
  have D6_b := D5_b
  have A6_x := A5_x.then hC.2.1
  have D6_x := D5_x
  have A6_y := A5_y.then hC.2.1
  have D6_y := D5_y
  have A6_z := A5_z.then hC.2.1
  have D6_z := D5_z
  have A6_o := A5_o.then hC.2.1
  have D6_o := D5_o
  have K6_x := K5_x
  have K6_y := K5_y
  have K6_z := K5_z
  have K6_o := K5_o
  have A6_n := hC.at S5.sto.mem.2
  have l_n := constL_len x k
  have D6_n : DenL _ _ (constL x k) (conF x) := den_const (n := 8) (L := L5) x k
  have hh6 := hh5
  clear hC S5 hh5 A5_a D5_a A5_b D5_b A5_x D5_x A5_y D5_y A5_z D5_z A5_o D5_o K5_x K5_y K5_z K5_o
  go_wp2_with fail
  refine (add_word S6.sto A6_a.row A6_n.row A6_a.own A6_n.own l_a l_n k1 (by omega) D6_a D6_n (by omega)).mono ?_
  rintro e w7 ⟨v_p, h_p, k_p, B7, L7, rfl, hW, l_p, D7_p, K7_p⟩
  have S7 := S6.evo hW.evo
  have A7_a := A6_a.evo hW.evo
  have D7_a := D6_a.more S6.sto.wf hW.evo.gr
  have A7_b := A6_b.evo hW.evo
  have D7_b := D6_b.more S6.sto.wf hW.evo.gr
  have A7_x := A6_x.evo hW.evo
  have D7_x := D6_x.more S6.sto.wf hW.evo.gr
  have A7_y := A6_y.evo hW.evo
  have D7_y := D6_y.more S6.sto.wf hW.evo.gr
  have A7_z := A6_z.evo hW.evo
  have D7_z := D6_z.more S6.sto.wf hW.evo.gr
  have A7_o := A6_o.evo hW.evo
  have D7_o := D6_o.more S6.sto.wf hW.evo.gr
  have A7_n := A6_n.evo hW.evo
  have D7_n := D6_n.more S6.sto.wf hW.evo.gr
  have K7_x := K6_x.more S6.sto.wf hW.evo.gr
  have K7_y := K6_y.more S6.sto.wf hW.evo.gr
  have K7_z := K6_z.more S6.sto.wf hW.evo.gr
  have K7_o := K6_o.more S6.sto.wf hW.evo.gr
  clear A6_a D6_a A6_b D6_b A6_x D6_x A6_y D6_y A6_z D6_z A6_o D6_o A6_n D6_n K6_x K6_y K6_z K6_o
  have A7_p := hW.at
  have hh7 : Bdd.high L7 ≤ 248 + 1085 * k := by have := hW.evo.gr.hi; omega
  clear hW S6 hh6
  go_wp2_with fail
  refine (const_any x k _ (by omega) k1 (by omega)).mono ?_
  rintro e w8 ⟨v_n2, rfl, hC⟩
  have S8 := S7.then hC.2.1
  have A8_a := A7_a.then hC.2.1
  have D8_a := D7_a
  have A8_b := A7_b.then hC.2.1
  have D8_b := D7_b
  have A8_x := A7_x.then hC.2.1
  have D8_x := D7_x
  have A8_y := A7_y.then hC.2.1
  have D8_y := D7_y
  have A8_z := A7_z.then hC.2.1
  have D8_z := D7_z
  have A8_o := A7_o.then hC.2.1
  have D8_o := D7_o
  have A8_n := A7_n.then hC.2.1
  have D8_n := D7_n
  have A8_p := A7_p.then hC.2.1
  have D8_p := D7_p
  have K8_x := K7_x
  have K8_y := K7_y
  have K8_z := K7_z
  have K8_o := K7_o
  have K8_p := K7_p
  have A8_n2 := hC.at S7.sto.mem.2
  have l_n2 := constL_len x k
  have D8_n2 : DenL _ _ (constL x k) (conF x) := den_const (n := 8) (L := L7) x k
  have hh8 := hh7
  clear hC S7 hh7 A7_a D7_a A7_b D7_b A7_x D7_x A7_y D7_y A7_z D7_z A7_o D7_o A7_n D7_n A7_p D7_p K7_x K7_y K7_z K7_o K7_p
  go_wp2_with fail
  refine (sub_word S8.sto A8_p.row A8_n2.row A8_p.own A8_n2.own l_p l_n2 k1 (by omega) D8_p D8_n2 (by omega)).mono ?_
  rintro e w9 ⟨v_q, h_q, k_q, B9, L9, rfl, hW, l_q, D9_q, K9_q⟩
  have S9 := S8.evo hW.evo
  have A9_a := A8_a.evo hW.evo
  have D9_a := D8_a.more S8.sto.wf hW.evo.gr
  have A9_b := A8_b.evo hW.evo
  have D9_b := D8_b.more S8.sto.wf hW.evo.gr
  have A9_x := A8_x.evo hW.evo
  have D9_x := D8_x.more S8.sto.wf hW.evo.gr
  have A9_y := A8_y.evo hW.evo
  have D9_y := D8_y.more S8.sto.wf hW.evo.gr
  have A9_z := A8_z.evo hW.evo
  have D9_z := D8_z.more S8.sto.wf hW.evo.gr
  have A9_o := A8_o.evo hW.evo
  have D9_o := D8_o.more S8.sto.wf hW.evo.gr
  have A9_n := A8_n.evo hW.evo
  have D9_n := D8_n.more S8.sto.wf hW.evo.gr
  have A9_p := A8_p.evo hW.evo
  have D9_p := D8_p.more S8.sto.wf hW.evo.gr
  have A9_n2 := A8_n2.evo hW.evo
  have D9_n2 := D8_n2.more S8.sto.wf hW.evo.gr
  have K9_x := K8_x.more S8.sto.wf hW.evo.gr
  have K9_y := K8_y.more S8.sto.wf hW.evo.gr
  have K9_z := K8_z.more S8.sto.wf hW.evo.gr
  have K9_o := K8_o.more S8.sto.wf hW.evo.gr
  have K9_p := K8_p.more S8.sto.wf hW.evo.gr
  clear A8_a D8_a A8_b D8_b A8_x D8_x A8_y D8_y A8_z D8_z A8_o D8_o A8_n D8_n A8_p D8_p A8_n2 D8_n2 K8_x K8_y K8_z K8_o K8_p
  have A9_q := hW.at
  have hh9 : Bdd.high L9 ≤ 248 + 1302 * k := by have := hW.evo.gr.hi; omega
  clear hW S8 hh8
  have e1 : h_y = h_x := D9_y.eq D9_x S9.sto.wf l_y l_x (fun i _ y => sum_comm FB FA i y)
  have e2 : k_y = k_x := K9_y.eq K9_x S9.sto.wf (fun y => cry_comm FB FA y k)
  have e3 : h_z = h_a := D9_z.eq D9_a S9.sto.wf l_z l_a (fun i _ y => sum_back FA FB i y)
  have e4 : h_o = constL 0 k := D9_o.eq (den_const 0 k) S9.sto.wf l_o (constL_len 0 k) (fun i _ y => sum_self FA i y)
  have e5 : k_o = 0 := K9_o.eq Den.zero S9.sto.wf (fun y => cry_self FA y k)
  have e6 : h_q = h_a := D9_q.eq D9_a S9.sto.wf l_q l_a (fun i _ y => sum_back FA (conF x) i y)
  subst e1 e2 e3 e5 e6
  subst e4
  go_wp2_with fail
  refine (same_any A9_x.row A9_y.row (by omega)).mono ?_
  rintro e w10 ⟨rfl, hC⟩
  have S10 := S9.then hC
  have A10_a := A9_a.then hC
  have D10_a := D9_a
  have A10_b := A9_b.then hC
  have D10_b := D9_b
  have A10_x := A9_x.then hC
  have D10_x := D9_x
  have A10_y := A9_y.then hC
  have D10_y := D9_y
  have A10_z := A9_z.then hC
  have D10_z := D9_z
  have A10_o := A9_o.then hC
  have D10_o := D9_o
  have A10_n := A9_n.then hC
  have D10_n := D9_n
  have A10_p := A9_p.then hC
  have D10_p := D9_p
  have A10_n2 := A9_n2.then hC
  have D10_n2 := D9_n2
  have A10_q := A9_q.then hC
  have D10_q := D9_q
  have K10_x := K9_x
  have K10_y := K9_y
  have K10_z := K9_z
  have K10_o := K9_o
  have K10_p := K9_p
  have K10_q := K9_q
  have hh10 := hh9
  clear hC S9 hh9 A9_a D9_a A9_b D9_b A9_x D9_x A9_y D9_y A9_z D9_z A9_o D9_o A9_n D9_n A9_p D9_p A9_n2 D9_n2 A9_q D9_q K9_x K9_y K9_z K9_o K9_p K9_q
  go_wp2_with fail
  refine (same_any A10_z.row A10_a.row (by omega)).mono ?_
  rintro e w11 ⟨rfl, hC⟩
  have S11 := S10.then hC
  have A11_a := A10_a.then hC
  have D11_a := D10_a
  have A11_b := A10_b.then hC
  have D11_b := D10_b
  have A11_x := A10_x.then hC
  have D11_x := D10_x
  have A11_y := A10_y.then hC
  have D11_y := D10_y
  have A11_z := A10_z.then hC
  have D11_z := D10_z
  have A11_o := A10_o.then hC
  have D11_o := D10_o
  have A11_n := A10_n.then hC
  have D11_n := D10_n
  have A11_p := A10_p.then hC
  have D11_p := D10_p
  have A11_n2 := A10_n2.then hC
  have D11_n2 := D10_n2
  have A11_q := A10_q.then hC
  have D11_q := D10_q
  have K11_x := K10_x
  have K11_y := K10_y
  have K11_z := K10_z
  have K11_o := K10_o
  have K11_p := K10_p
  have K11_q := K10_q
  have hh11 := hh10
  clear hC S10 hh10 A10_a D10_a A10_b D10_b A10_x D10_x A10_y D10_y A10_z D10_z A10_o D10_o A10_n D10_n A10_p D10_p A10_n2 D10_n2 A10_q D10_q K10_x K10_y K10_z K10_o K10_p K10_q
  go_wp2_with fail
  refine (const_any 0 k _ (by omega) k1 (by omega)).mono ?_
  rintro e w12 ⟨v_c0, rfl, hC⟩
  have S12 := S11.then hC.2.1
  have A12_a := A11_a.then hC.2.1
  have D12_a := D11_a
  have A12_b := A11_b.then hC.2.1
  have D12_b := D11_b
  have A12_x := A11_x.then hC.2.1
  have D12_x := D11_x
  have A12_y := A11_y.then hC.2.1
  have D12_y := D11_y
  have A12_z := A11_z.then hC.2.1
  have D12_z := D11_z
  have A12_o := A11_o.then hC.2.1
  have D12_o := D11_o
  have A12_n := A11_n.then hC.2.1
  have D12_n := D11_n
  have A12_p := A11_p.then hC.2.1
  have D12_p := D11_p
  have A12_n2 := A11_n2.then hC.2.1
  have D12_n2 := D11_n2
  have A12_q := A11_q.then hC.2.1
  have D12_q := D11_q
  have K12_x := K11_x
  have K12_y := K11_y
  have K12_z := K11_z
  have K12_o := K11_o
  have K12_p := K11_p
  have K12_q := K11_q
  have A12_c0 := hC.at S11.sto.mem.2
  have l_c0 := constL_len 0 k
  have D12_c0 : DenL _ _ (constL 0 k) (conF 0) := den_const (n := 8) (L := L9) 0 k
  have hh12 := hh11
  clear hC S11 hh11 A11_a D11_a A11_b D11_b A11_x D11_x A11_y D11_y A11_z D11_z A11_o D11_o A11_n D11_n A11_p D11_p A11_n2 D11_n2 A11_q D11_q K11_x K11_y K11_z K11_o K11_p K11_q
  go_wp2_with fail
  refine (same_any A12_o.row A12_c0.row (by omega)).mono ?_
  rintro e w13 ⟨rfl, hC⟩
  have S13 := S12.then hC
  have A13_a := A12_a.then hC
  have D13_a := D12_a
  have A13_b := A12_b.then hC
  have D13_b := D12_b
  have A13_x := A12_x.then hC
  have D13_x := D12_x
  have A13_y := A12_y.then hC
  have D13_y := D12_y
  have A13_z := A12_z.then hC
  have D13_z := D12_z
  have A13_o := A12_o.then hC
  have D13_o := D12_o
  have A13_n := A12_n.then hC
  have D13_n := D12_n
  have A13_p := A12_p.then hC
  have D13_p := D12_p
  have A13_n2 := A12_n2.then hC
  have D13_n2 := D12_n2
  have A13_q := A12_q.then hC
  have D13_q := D12_q
  have A13_c0 := A12_c0.then hC
  have D13_c0 := D12_c0
  have K13_x := K12_x
  have K13_y := K12_y
  have K13_z := K12_z
  have K13_o := K12_o
  have K13_p := K12_p
  have K13_q := K12_q
  have hh13 := hh12
  clear hC S12 hh12 A12_a D12_a A12_b D12_b A12_x D12_x A12_y D12_y A12_z D12_z A12_o D12_o A12_n D12_n A12_p D12_p A12_n2 D12_n2 A12_q D12_q A12_c0 D12_c0 K12_x K12_y K12_z K12_o K12_p K12_q
  go_wp2_with fail
  refine (same_any A13_q.row A13_a.row (by omega)).mono ?_
  rintro e w14 ⟨rfl, hC⟩
  have S14 := S13.then hC
  have A14_a := A13_a.then hC
  have D14_a := D13_a
  have A14_b := A13_b.then hC
  have D14_b := D13_b
  have A14_x := A13_x.then hC
  have D14_x := D13_x
  have A14_y := A13_y.then hC
  have D14_y := D13_y
  have A14_z := A13_z.then hC
  have D14_z := D13_z
  have A14_o := A13_o.then hC
  have D14_o := D13_o
  have A14_n := A13_n.then hC
  have D14_n := D13_n
  have A14_p := A13_p.then hC
  have D14_p := D13_p
  have A14_n2 := A13_n2.then hC
  have D14_n2 := D13_n2
  have A14_q := A13_q.then hC
  have D14_q := D13_q
  have A14_c0 := A13_c0.then hC
  have D14_c0 := D13_c0
  have K14_x := K13_x
  have K14_y := K13_y
  have K14_z := K13_z
  have K14_o := K13_o
  have K14_p := K13_p
  have K14_q := K13_q
  have hh14 := hh13
  clear hC S13 hh13 A13_a D13_a A13_b D13_b A13_x D13_x A13_y D13_y A13_z D13_z A13_o D13_o A13_n D13_n A13_p D13_p A13_n2 D13_n2 A13_q D13_q A13_c0 D13_c0 K13_x K13_y K13_z K13_o K13_p K13_q
  have hb : Below w.heap.size w w14 := (hF0.then S14.fr).below (Nat.le_refl _) (by simp)
  have HB := Lib.hid hb
  clear hb S14 A14_a D14_a A14_b D14_b A14_x D14_x A14_y D14_y A14_z D14_z A14_o D14_o A14_n D14_n A14_p D14_p A14_n2 D14_n2 A14_q D14_q A14_c0 D14_c0 K14_x K14_y K14_z K14_o K14_p K14_q
  go_wp2
  go_ret
  exact ⟨rfl, HB.out⟩
end Go.Proofs.YtiojnjihbidbiaaGreat
