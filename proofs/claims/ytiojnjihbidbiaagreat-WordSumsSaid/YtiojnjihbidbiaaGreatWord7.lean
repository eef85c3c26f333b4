/- word, walked: a node's value at an assignment; a word's. -/
import Derived.Test.YtiojnjihbidbiaaGreatWord6
namespace Go.Proofs.YtiojnjihbidbiaaGreat
open Go.RowKit
attribute [local go_sem ↓] Go.wp_at_zero Go.wp_at_succ
set_option linter.unusedVariables false

/-- The assignment that a number is. -/
def xbit (x v : Nat) : Bool := decide (x / 2 ^ v % 2 = 1)

section
variable {w w' : World} {s n room : Nat} {off : Bool} {B : List Nat} {L : List Bdd.Nd}

theorem value_any (h : Sto w s B n room off L) {a x : Nat} {F : Fn} (da : Den n L a F) (hx : x < 256) :
    Calls Tryz.prog 157 #[.pointer (some ⟨s, 0, none⟩), .int .u32 (a : Int), .int .u8 (x : Int)] w fun e w' => e = .returned (.int .u8 ((F (xbit x)).toNat : Nat)) ∧ Fr [] w w' := by
  have hn := h.vars.2
  have hw := h.wf
  rw [← da.2]
  have ha := da.1
  clear da
  go_enter Tryz.func157, Tryz.ntmps157
  go_wp2_with fail
  refine (sto_order h).mono ?_
  rintro e w1 ⟨b', rfl, hB, hF, hlt⟩
  have h1 := h.fr hF (by simp)
  have H1 := Lib.hid h1
  have HF := Lib.hid hF
  clear h1 hF h
  go_wp2_with fail
  go_loopg [1] (n - Bdd.lev n (Bdd.tab L) a) (fun kk hv wr => ∃ k : Nat, kk = n - Bdd.lev n (Bdd.tab L) k ∧ hv = .int .u32 (k : Int) ∧ w1 = wr ∧ Bdd.IsNd (Bdd.tab L) k ∧ Bdd.D n (Bdd.tab L) k (xbit x) = Bdd.D n (Bdd.tab L) a (xbit x))
  case atStart => exact ⟨a, rfl, rfl, rfl, ha, rfl⟩
  case round =>
    obtain ⟨k, hk, rfl, rfl, hkn, hD⟩ := hrel
    have hklt := H1.out.nd_lt hkn
    by_cases h2 : k < 2
    · have hres : ((Bdd.D n (Bdd.tab L) a (xbit x)).toNat : Int) = (k : Int) := by
        rw [← hD]
        have : k = 0 ∨ k = 1 := by omega
        rcases this with rfl | rfl
        · rw [Bdd.D_zero]; rfl
        · rw [Bdd.D_one]; rfl
      have hmod : (k : Int) % 256 = k := by omega
      have hfin : Ending.returned (.int .u8 (k : Int)) = .returned (.int .u8 ((Bdd.D n (Bdd.tab L) a (xbit x)).toNat : Nat)) := by rw [hres]
      have HFIN := Lib.hid hfin
      clear hD hres hfin
      go_wp2
      go_ret
      exact ⟨HFIN.out, HF.out⟩
    · obtain ⟨d, hd⟩ := hkn.node (by omega)
      have hlv := Bdd.lev_node (n := n) (by omega : 2 ≤ k) hd
      have hdn := hw.lv hd
      have hbit := bit_u8 x d.lv hx
      have hDn := Bdd.D_node hw hd (xbit x)
      by_cases hb : x / 2 ^ d.lv % 2 = 1
      · rw [hb] at hbit
        have hx1 : xbit x d.lv = true := by simp [xbit, hb]
        rw [hx1, if_pos rfl] at hDn
        have hnx : Bdd.D n (Bdd.tab L) d.hi (xbit x) = Bdd.D n (Bdd.tab L) a (xbit x) := by rw [← hDn]; exact hD
        have hms : n - Bdd.lev n (Bdd.tab L) d.hi < n - Bdd.lev n (Bdd.tab L) k := by rw [hlv]; have := hw.lhi hd; omega
        have ih := hw.hi hd
        have HX := Lib.hid hnx
        have HM := Lib.hid hms
        have HD := Lib.hid hd
        clear hD hDn hnx hx1 hb hms hd
        rw [← hk] at HM
        go_wp2_with fail
        refine (sto_level H1.out hkn).mono ?_
        rw [hlv]
        rintro e w' ⟨rfl, rfl⟩
        go_wp2_with fail
        refine (ovar_any b' n d.lv _ hB hdn hn).mono ?_
        rintro e w' ⟨rfl, rfl⟩
        go_wp2_with fail
        refine (sto_high H1.out HD.out).mono ?_
        rintro e w' ⟨rfl, rfl⟩
        go_wp2
        go_roundg (n - Bdd.lev n (Bdd.tab L) d.hi)
        case measure => exact HM.out
        case rel => exact ⟨d.hi, rfl, rfl, rfl, ih, HX.out⟩
      · have hb0 : x / 2 ^ d.lv % 2 = 0 := by omega
        rw [hb0] at hbit
        have hx1 : xbit x d.lv = false := by simp [xbit, hb0]
        rw [hx1, if_neg (by simp)] at hDn
        have hnx : Bdd.D n (Bdd.tab L) d.lo (xbit x) = Bdd.D n (Bdd.tab L) a (xbit x) := by rw [← hDn]; exact hD
        have hms : n - Bdd.lev n (Bdd.tab L) d.lo < n - Bdd.lev n (Bdd.tab L) k := by rw [hlv]; have := hw.llo hd; omega
        have ih := hw.lo hd
        have HX := Lib.hid hnx
        have HM := Lib.hid hms
        have HD := Lib.hid hd
        clear hD hDn hnx hx1 hb hb0 hms hd
        rw [← hk] at HM
        go_wp2_with fail
        refine (sto_level H1.out hkn).mono ?_
        rw [hlv]
        rintro e w' ⟨rfl, rfl⟩
        go_wp2_with fail
        refine (ovar_any b' n d.lv _ hB hdn hn).mono ?_
        rintro e w' ⟨rfl, rfl⟩
        go_wp2_with fail
        refine (sto_low H1.out HD.out).mono ?_
        rintro e w' ⟨rfl, rfl⟩
        go_wp2
        go_roundg (n - Bdd.lev n (Bdd.tab L) d.lo)
        case measure => exact HM.out
        case rel => exact ⟨d.lo, rfl, rfl, rfl, ih, HX.out⟩

/-- A word's number at an assignment. -/
def numOf (F : Nat → Fn) (y : Nat → Bool) : Nat → Nat
  | 0 => 0
  | j + 1 => numOf F y j + (F j y).toNat * 2 ^ j
theorem numOf_lt (F : Nat → Fn) (y : Nat → Bool) : ∀ j, numOf F y j < 2 ^ j
  | 0 => by simp [numOf]
  | j + 1 => by
    have := numOf_lt F y j
    have h2 : (F j y).toNat ≤ 1 := Bool.toNat_le _
    have : (F j y).toNat * 2 ^ j ≤ 1 * 2 ^ j := Nat.mul_le_mul_right _ h2
    rw [numOf, Nat.pow_succ]
    omega

theorem one_row {v1 : Value} {a1 : List Nat} (h1 : HsAt w v1 a1) : RowsAt (w.alloc (.cells #[v1] 24)) (.slice (some ⟨w.heap.size, 0, none⟩) 1 1) [(v1, a1)] := by
  refine ⟨row_lit (Blk.new w #[v1] 24) (by unfold maxLen; simp), fun i p hp => ?_⟩
  have F : Fr [] w (w.alloc (.cells #[v1] 24)) := (Fr.refl [] w).alloc _
  match i, hp with
  | 0, hp => obtain rfl := Option.some.inj hp; exact h1.fr F (by simp)
  | i + 1, hp => simp at hp

theorem refuses_one (h : Sto w s B n room off L) {v1 : Value} {a1 : List Nat} {F : Nat → Fn} {m : Nat} (h1 : HsAt w v1 a1) (l1 : a1.length = m) (m1 : 1 ≤ m) (m8 : m ≤ 8) (d1 : DenL n L a1 F) :
    Calls Tryz.prog 98 #[.pointer (some ⟨s, 0, none⟩), .slice (some ⟨w.heap.size, 0, none⟩) 1 1] (w.alloc (.cells #[v1] 24)) fun e w' => e = .returned (.int .i64 0) ∧ w.alloc (.cells #[v1] 24) = w' := by
  have hlen := h.len
  refine (refuses_any (h.fr ((Fr.refl [] w).alloc _) (by simp)) (one_row h1) (by simp) (fun i p j x hp hx => ?_) (fun i p hp => ?_)).mono ?_
  · match i, hp with
    | 0, hp => obtain rfl := Option.some.inj hp; have := d1.nd hx; omega
    | i + 1, hp => simp at hp
  · match i, hp with
    | 0, hp => obtain rfl := Option.some.inj hp; show a1.length < _; omega
    | i + 1, hp => simp at hp
  · rintro e w' ⟨e1, hr⟩
    refine ⟨?_, e1⟩
    rcases hr with ⟨_, i, p, q, hp, hq, hb⟩ | ⟨_, _, i, p, j, x, hp, hx, hb⟩ | ⟨e, _⟩
    · exfalso
      have hq' : q = (v1, a1) := by simpa using hq.symm
      subst hq'
      match i, hp with
      | 0, hp => obtain rfl := Option.some.inj hp; replace hb : a1.length < 1 ∨ 8 < a1.length ∨ a1.length ≠ a1.length := hb; omega
      | i + 1, hp => simp at hp
    · exfalso
      match i, hp with
      | 0, hp => obtain rfl := Option.some.inj hp; have := d1.nd hx; omega
      | i + 1, hp => simp at hp
    · exact e

theorem or_u8 (i q y : Nat) (hq : y + q * 2 ^ i < 256) (hy : y < 2 ^ i) : bits BinOp.or IntKind.u8 (y : Int) ((q * 2 ^ i : Nat) : Int) = ((y + q * 2 ^ i : Nat) : Int) := by
  rw [u8_or_nat _ _ (by omega) (by omega), Nat.mul_comm q, Nat.or_comm, ← Nat.two_pow_add_eq_or_of_lt hy, Nat.add_comm]

set_option maxHeartbeats 1000000 in
set_option maxRecDepth 4000 in
theorem eval_any (h : Sto w s B n room off L) {m x : Nat} {av : Value} {xs : List Nat} {F : Nat → Fn} (hA : HsAt w av xs) (oA : ∀ k, av.ownBlock = some k → k ∉ B) (la : xs.length = m) (m1 : 1 ≤ m) (m8 : m ≤ 8) (dA : DenL n L xs F) (hx : x < 256) :
    Calls Tryz.prog 88 #[.pointer (some ⟨s, 0, none⟩), av, .int .u8 (x : Int)] w fun e w' => e = .returned (.tuple #[.int .u8 (numOf F (xbit x) m : Nat), .int .i64 0]) ∧ Fr [] w w' := by
  obtain ⟨aa, acap, rfl⟩ : ∃ aa acap, av = .slice aa m acap := by obtain ⟨aa, acap, e, _⟩ := hA.shape; exact ⟨aa, acap, by rw [e, la]⟩
  have R := Lib.hid (refuses_one h hA la m1 m8 dA)
  have F1 : Fr [] w (w.alloc (.cells #[.slice aa m acap] 24)) := (Fr.refl [] w).alloc _
  have HF1 := Lib.hid F1
  have HS := Lib.hid (h.fr F1 (by simp))
  have HA := Lib.hid (hA.fr F1 (by simp))
  have HD := Lib.hid dA
  clear h hA dA F1
  go_enter Tryz.func88, Tryz.ntmps88
  go_wp2_with fail
  refine R.out.mono ?_
  rintro e w1 ⟨rfl, rfl⟩
  go_wp2_with fail
  generalize w.alloc (.cells #[.slice aa m acap] 24) = w1 at *
  go_loopg [9, 21] m (fun kk v i wr => ∃ j : Nat, j ≤ m ∧ kk = m - j ∧ i = .int .i64 (j : Int) ∧ v = .int .u8 (numOf F (xbit x) j : Nat) ∧ Fr [] w1 wr)
  case atStart => exact ⟨0, by omega, by omega, rfl, rfl, Fr.refl _ _⟩
  case round =>
    obtain ⟨j, hj, hk, rfl, rfl, hF⟩ := hrel
    by_cases hlt : j < m
    · obtain ⟨z, hz⟩ : ∃ z, xs[j]? = some z := ⟨xs[j], List.getElem?_eq_getElem (by omega)⟩
      obtain ⟨ga, acap', e, ca⟩ := (HA.out.fr hF (by simp)).get hz
      injection e with e1 e3 e4
      subst e1 e4
      have dz := HD.out j z hz
      have hS := HS.out.fr hF (by simp)
      have hb : (F j (xbit x)).toNat ≤ 1 := Bool.toNat_le _
      have hnl := numOf_lt F (xbit x) j
      have hnl2 := numOf_lt F (xbit x) (j + 1)
      have hpw : 2 ^ (j + 1) ≤ 2 ^ 8 := Nat.pow_le_pow_right (by omega) (by omega)
      rw [numOf] at hnl2
      have hor := or_u8 j (F j (xbit x)).toNat (numOf F (xbit x) j) (by omega) hnl
      have hmul : ((F j (xbit x)).toNat : Int) * 2 ^ j % 256 = (((F j (xbit x)).toNat * 2 ^ j : Nat) : Int) := by
        rw [show ((F j (xbit x)).toNat : Int) * 2 ^ j = (((F j (xbit x)).toNat * 2 ^ j : Nat) : Int) by simp]
        omega
      have hval : bits BinOp.or IntKind.u8 (numOf F (xbit x) j : Int) (((F j (xbit x)).toNat : Int) * 2 ^ j % 256) = (numOf F (xbit x) (j + 1) : Nat) := by rw [hmul, hor]; rfl
      have HVAL := Lib.hid hval
      clear hmul hval hor hnl hnl2 hpw hb
      have HDZ := Lib.hid dz
      have HSS := Lib.hid hS
      have HFF := Lib.hid hF
      clear hz e3 dz hS hF
      go_wp2_with fail
      refine (value_any HSS.out HDZ.out hx).mono ?_
      rintro e w2 ⟨rfl, hF2⟩
      have HF2 := Lib.hid (HFF.out.then hF2)
      clear hF2
      go_wp2_with fail
      go_roundg (m - (j + 1))
      case measure => omega
      case rel => exact ⟨j + 1, by omega, rfl, by go_num, by rw [HVAL.out], HF2.out⟩
    · have e : j = m := by omega
      subst e
      have HFF := Lib.hid (HF1.out.then hF)
      clear hF
      go_wp2
      go_ret2
      exact ⟨rfl, HFF.out⟩
end
end Go.Proofs.YtiojnjihbidbiaaGreat
