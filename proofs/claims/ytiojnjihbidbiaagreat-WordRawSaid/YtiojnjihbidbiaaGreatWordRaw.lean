/- WordRaw, walked. -/
import Derived.Test.YtiojnjihbidbiaaGreatWord14
import Derived.Below
namespace Go.Proofs.YtiojnjihbidbiaaGreat
open Go.RowKit
attribute [local go_sem ↓] Go.wp_at_zero Go.wp_at_succ
set_option linter.unusedVariables false

/-- A slice of integers that came in: nil, or a row of cells. -/
def IsRow (k : IntKind) (w : World) (a : Option Addr) (len cap : Nat) (zs : List Int) : Prop :=
  (a = none ∧ len = 0 ∧ cap = 0 ∧ zs = []) ∨
  ∃ x, a = some x ∧ len ≤ cap ∧ cap ≤ maxLen ∧ zs.length = cap ∧ (∀ i, i < zs.length → w.cell? (x.add i) = some (.int k (zs.getD i 0))) ∧ ∀ n ∈ zs, (Lit.int k n).wf = true

theorem IsRow.nat {w : World} {a : Option Addr} {len cap : Nat} {zs : List Int} (h : IsRow .u32 w a len cap zs) :
    ∃ xs : List Nat, xs.length = len ∧ len ≤ maxLen ∧ (∀ (i x : Nat), xs[i]? = some x → x < 4294967296) ∧ ∀ (i y : Nat), xs[i]? = some y → ∃ x, a = some x ∧ w.cell? (x.add i) = some (.int .u32 (y : Int)) := by
  rcases h with ⟨rfl, rfl, rfl, rfl⟩ | ⟨x, rfl, hl, hm, hz, hc, hw⟩
  · exact ⟨[], rfl, by unfold maxLen; omega, fun i x hx => by simp at hx, fun i x hx => by simp at hx⟩
  · have key : ∀ (i y : Nat), ((zs.take len).map Int.toNat)[i]? = some y → i < zs.length ∧ zs.getD i 0 = (y : Int) ∧ y < 4294967296 := fun i y hy => by
      rw [List.getElem?_map] at hy
      rcases Nat.lt_or_ge i len with hi | hi
      · rw [List.getElem?_take_of_lt hi] at hy
        have hi2 : i < zs.length := by omega
        rw [List.getElem?_eq_getElem hi2] at hy
        have hy' : (zs[i]).toNat = y := by simpa using hy
        have hwf := hw _ (List.getElem_mem hi2)
        have hb : 0 ≤ zs[i] ∧ zs[i] < 4294967296 := by
          simp [Lit.wf, IntKind.min, IntKind.max, IntKind.signed, IntKind.bits] at hwf
          constructor <;> omega
        refine ⟨hi2, ?_, by omega⟩
        rw [List.getD_eq_getElem?_getD, List.getElem?_eq_getElem hi2, Option.getD_some]
        omega
      · rw [List.getElem?_eq_none (by simp; omega)] at hy; cases hy
    refine ⟨(zs.take len).map Int.toNat, by simp; omega, by omega, fun i y hy => (key i y hy).2.2, fun i y hy => ⟨x, rfl, ?_⟩⟩
    obtain ⟨h1, h2, _⟩ := key i y hy
    rw [← h2]; exact hc i h1

/-- A handle that is no node of a new store. -/
def noNode (l : List Nat) : Bool := l.any fun x => decide (2 ≤ x)
theorem noNode_push (l : List Nat) (x : Nat) : noNode (l ++ [x]) = (noNode l || decide (2 ≤ x)) := by simp [noNode]
theorem take_push {l : List Nat} {j x : Nat} (h : l[j]? = some x) : l.take (j + 1) = l.take j ++ [x] := by
  rw [List.take_add_one, h]; rfl

def conL (l : List Nat) (i : Nat) : Fn := fun _ => decide (l[i]? = some 1)
theorem den_conL {n : Nat} {L : List Bdd.Nd} {l : List Nat} (h : noNode l = false) : DenL n L l (conL l) := fun i x hx => by
  have h2 : ¬ 2 ≤ x := fun h2 => by
    have : noNode l = true := List.any_eq_true.2 ⟨x, List.mem_of_getElem? hx, by simpa using h2⟩
    rw [h] at this; cases this
  unfold conL
  rw [hx]
  match x, h2 with
  | 0, _ => exact Den.zero.congr fun y => by simp
  | 1, _ => exact Den.one.congr fun y => by simp
  | x + 2, h2 => omega

/-- What words of these lengths are told. -/
theorem raw_ok {v1 v2 : Value} {a1 a2 : List Nat} (h1 : 1 ≤ a1.length) (h8 : a1.length ≤ 8) (he : a1.length = a2.length) : ¬ badLen [(v1, a1), (v2, a2)] := by
  rintro ⟨i, p, q, hp, hq, hb⟩
  have hq' : q = (v1, a1) := by simpa using hq.symm
  subst hq'
  match i, hp with
  | 0, hp => obtain rfl := Option.some.inj hp; replace hb : a1.length < 1 ∨ 8 < a1.length ∨ a1.length ≠ a1.length := hb; omega
  | 1, hp => obtain rfl := Option.some.inj hp; replace hb : a2.length < 1 ∨ 8 < a2.length ∨ a2.length ≠ a1.length := hb; omega
  | i + 2, hp => simp at hp
theorem raw_len {v1 v2 : Value} {a1 a2 : List Nat} (h : a1.length < 1 ∨ 8 < a1.length ∨ a1.length ≠ a2.length) : badLen [(v1, a1), (v2, a2)] := by
  rcases h with h | h | h
  · exact ⟨0, _, _, rfl, rfl, .inl h⟩
  · exact ⟨0, _, _, rfl, rfl, .inr (.inl h)⟩
  · exact ⟨1, _, _, rfl, rfl, .inr (.inr (Ne.symm h))⟩
theorem raw_nd {v1 v2 : Value} {a1 a2 : List Nat} (h : (noNode a1 || noNode a2) = true) : badNd [] [(v1, a1), (v2, a2)] := by
  have key : ∀ l, noNode l = true → ∃ j x : Nat, l[j]? = some x ∧ 2 ≤ x := fun l hl => by
    obtain ⟨x, hx, h2⟩ := List.any_eq_true.1 hl
    obtain ⟨j, hj⟩ := List.getElem?_of_mem hx
    exact ⟨j, x, hj, by simpa using h2⟩
  rcases Bool.or_eq_true_iff.1 h with h | h
  · obtain ⟨j, x, hj, h2⟩ := key _ h; exact ⟨0, _, j, x, rfl, hj, h2⟩
  · obtain ⟨j, x, hj, h2⟩ := key _ h; exact ⟨1, _, j, x, rfl, hj, h2⟩

set_option maxHeartbeats 1000000 in
set_option maxRecDepth 4000 in
theorem wordRaw_any (a0 : Option Addr) (len0 cap0 : Nat) (z0 : List Int) (a1 : Option Addr) (len1 cap1 : Nat) (z1 : List Int) (w : World) (w0 : IsRow .u32 w a0 len0 cap0 z0) (w1 : IsRow .u32 w a1 len1 cap1 z1) :
    Calls Tryz.prog 4 #[.slice a0 len0 cap0, .slice a1 len1 cap1] w fun e w' => e = .returned (.bool true) ∧ Below w.heap.size w w' := by
  obtain ⟨i0, hi, hz0, hz1, hz2⟩ := info_parts Tryz.info_handle
  obtain ⟨xs, hx, hxm, hxs, hxc⟩ := w0.nat
  obtain ⟨ys, hy, hym, hys, hyc⟩ := w1.nat
  have ym : maxLen = 9007199254740992 ∨ True := .inr trivial
  clear w0 w1
  have hm0 : (len0 : Int) ≤ 9223372036854775807 := by unfold maxLen at hxm; omega
  have hm1 : (len1 : Int) ≤ 9223372036854775807 := by unfold maxLen at hym; omega
  have HXC := Lib.hid hxc
  have HYC := Lib.hid hyc
  have HXS := Lib.hid hxs
  have HYS := Lib.hid hys
  clear hxc hyc hxs hys hxm hym ym
  by_cases hl0 : 12 < len0
  · go_enter Tryz.func4, Tryz.ntmps4
    go_wp2_with fail
    refine (known26 _).mono ?_
    rintro e w0 ⟨rfl, hF0⟩
    have hl0' : (12 : Int) < (len0 : Int) := by omega
    go_wp2
    go_ret
    exact ⟨rfl, hF0.below (Nat.le_refl _) (by simp)⟩
  by_cases hl1 : 12 < len1
  · go_enter Tryz.func4, Tryz.ntmps4
    go_wp2_with fail
    refine (known26 _).mono ?_
    rintro e w0 ⟨rfl, hF0⟩
    have hl0' : ¬ (12 : Int) < (len0 : Int) := by omega
    have hl1' : (12 : Int) < (len1 : Int) := by omega
    go_wp2
    go_ret
    exact ⟨rfl, hF0.below (Nat.le_refl _) (by simp)⟩
  go_enter Tryz.func4, Tryz.ntmps4
  go_wp2_with fail
  refine (known26 _).mono ?_
  rintro e w0 ⟨rfl, hF0⟩
  have hl0' : ¬ (12 : Int) < (len0 : Int) := by omega
  have hl1' : ¬ (12 : Int) < (len1 : Int) := by omega
  go_wp2_with fail
  refine (snew_any 3 500 _ (by omega) (by omega) (by omega) (by omega)).mono ?_
  rintro e w1 ⟨s, B, rfl, hS, hF1, hB⟩
  go_wp2_with fail
  have HS := Lib.hid hS
  clear hS
  go_loopg [7, 9, 10] len0 (fun kk v bd i wr => ∃ j : Nat, j ≤ len0 ∧ kk = len0 - j ∧ i = .int .i64 (j : Int) ∧ OutRel (xs.take j) w1 v wr ∧ bd = .bool (noNode (xs.take j)))
  case atStart => exact ⟨0, by omega, by omega, rfl, OutRel.start w1, rfl⟩
  case round =>
    obtain ⟨j, hj, hk, rfl, hO, rfl⟩ := hrel
    by_cases hlt : j < len0
    · obtain ⟨x, hx1⟩ : ∃ x, xs[j]? = some x := ⟨xs[j], List.getElem?_eq_getElem (by omega)⟩
      obtain ⟨p, rfl, cp⟩ := HXC.out j x hx1
      have hxl := HXS.out j x hx1
      obtain ⟨hH, hF, hOw⟩ := hO
      have hFr : Fr [] w wr := (hF0.then hF1).then hF
      have cpr := hFr.cell cp (by simp)
      have hlen : (xs.take j).length = j := by simp; omega
      have hnx := take_push hx1
      have hnb : noNode (xs.take (j + 1)) = (noNode (xs.take j) || decide (2 ≤ x)) := by rw [hnx, noNode_push]
      have HNX := Lib.hid hnx
      have HNB := Lib.hid hnb
      have HH := Lib.hid hH
      have HFF := Lib.hid hF
      have HO := Lib.hid hOw
      clear hnx hH hF hOw hFr hx1 hnb
      cases hb : noNode (xs.take j)
      all_goals
        rw [hb] at HNB
        have HB := Lib.hid hb
        clear hb
        generalize hhs : xs.take j = hs at *
        have HHS := Lib.hid hhs
        clear hhs
        go_wp2_with (at_builtin; go_loud (refine wpList_append_lies _ rfl _ _ _ rfl 0 28 i0 (.int .u32 0) 1 4 Tryz.underlying24 hi hz0 hz1 hz2 rfl (by omega) u7 hs.length _ rfl (HH.out.alloc _) ⟨wr.heap.size, 0, none⟩ 1 1 [.int .u32 (x : Int)] rfl rfl ?hnews ?h1 (by omega) ?h63 (by omega) (Nat.zero_le _) (wr.heap.size + 1) (by simp) ?_))
        case hnews =>
          intro i u hi
          have : i = 0 := by simpa using (List.getElem?_eq_some_iff.1 hi).1
          subst this
          simp only [List.getElem?_cons_zero, Option.some.injEq] at hi
          subst hi
          exact (Blk.new wr #[.int .u32 (x : Int)] 28).cell 0 rfl
        case h1 =>
          intro u hu
          simp only [List.mem_singleton] at hu
          subst hu; rfl
        case h63 => unfold maxLen; omega
        intro g cap w3 hown1 hgrow hat hglt
        have hrel : OutRel (xs.take (j + 1)) w1 (.slice (some ⟨g, 0, none⟩) (j + 1) cap) w3 := OutRel.push HNX.out hlen HH.out HFF.out HO.out hown1 hgrow hat
        have cp3 := ((hF0.then hF1).then hrel.2.1).cell cp (by simp)
        have HREL := Lib.hid hrel
        clear hrel hown1 hgrow hat
      · by_cases h2 : 2 ≤ x
        · have t : decide ((x : Int) < ((([] : List Bdd.Nd).length : Nat) : Int) + 2) = false := by simp; omega
          have hnb2 : noNode (xs.take (j + 1)) = true := by rw [HNB.out]; simp [h2]
          have HNB2 := Lib.hid hnb2
          clear hnb2
          go_wp2_with fail
          refine (sto_is (HS.out.fr HREL.out.2.1 (by simp)) (x : Int) (by omega) (by omega)).mono ?_
          rw [t]
          rintro e w4 ⟨rfl, rfl⟩
          go_wp2
          go_roundg (len0 - (j + 1))
          case measure => omega
          case rel => exact ⟨j + 1, by omega, rfl, by go_num, HREL.out, by rw [HNB2.out]⟩
        · have t : decide ((x : Int) < ((([] : List Bdd.Nd).length : Nat) : Int) + 2) = true := by simp; omega
          have hnb2 : noNode (xs.take (j + 1)) = false := by rw [HNB.out]; simp; omega
          have HNB2 := Lib.hid hnb2
          clear hnb2
          go_wp2_with fail
          refine (sto_is (HS.out.fr HREL.out.2.1 (by simp)) (x : Int) (by omega) (by omega)).mono ?_
          rw [t]
          rintro e w4 ⟨rfl, rfl⟩
          go_wp2
          go_roundg (len0 - (j + 1))
          case measure => omega
          case rel => exact ⟨j + 1, by omega, rfl, by go_num, HREL.out, by rw [HNB2.out]⟩
      · have hnb2 : noNode (xs.take (j + 1)) = true := by rw [HNB.out]; rfl
        have HNB2 := Lib.hid hnb2
        clear hnb2
        go_wp2
        go_roundg (len0 - (j + 1))
        case measure => omega
        case rel => exact ⟨j + 1, by omega, rfl, by go_num, HREL.out, by rw [HNB2.out]⟩
    · have e : len0 = j := by omega
      subst e
      rw [List.take_of_length_le (by omega)] at hO
      have HO1 := Lib.hid hO
      rw [List.take_of_length_le (by omega)]
      obtain ⟨b1, hb1⟩ : ∃ b, noNode xs = b := ⟨_, rfl⟩
      rw [hb1]
      have HB1 := Lib.hid hb1
      clear hO hb1
      have HF1 := Lib.hid ((hF0.then hF1).then HO1.out.2.1)
      obtain ⟨w2, hw2⟩ : ∃ w2, w2 = wr := ⟨_, rfl⟩
      subst hw2
      go_wp2_with fail
      go_loopg [8, 9, 11] len1 (fun kk v bd i wr => ∃ j : Nat, j ≤ len1 ∧ kk = len1 - j ∧ i = .int .i64 (j : Int) ∧ OutRel (ys.take j) w2 v wr ∧ bd = .bool ((b1 || noNode (ys.take j))))
      case atStart => exact ⟨0, by omega, by omega, rfl, OutRel.start w2, by simp [noNode]⟩
      case round =>
        obtain ⟨j, hj, hk, rfl, hO, rfl⟩ := hrel
        by_cases hlt : j < len1
        · obtain ⟨x, hx1⟩ : ∃ x, ys[j]? = some x := ⟨ys[j], List.getElem?_eq_getElem (by omega)⟩
          obtain ⟨p, rfl, cp⟩ := HYC.out j x hx1
          have hxl := HYS.out j x hx1
          obtain ⟨hH, hF, hOw⟩ := hO
          have hFr : Fr [] w wr := (HF1.out).then hF
          have cpr := hFr.cell cp (by simp)
          have hlen : (ys.take j).length = j := by simp; omega
          have hnx := take_push hx1
          have hnb : (b1 || noNode (ys.take (j + 1))) = ((b1 || noNode (ys.take j)) || decide (2 ≤ x)) := by rw [hnx, noNode_push]; simp [Bool.or_assoc]
          have HNX := Lib.hid hnx
          have HNB := Lib.hid hnb
          have HH := Lib.hid hH
          have HFF := Lib.hid hF
          have HO := Lib.hid hOw
          clear hnx hH hF hOw hFr hx1 hnb
          cases hb : (b1 || noNode (ys.take j))
          all_goals
            rw [hb] at HNB
            have HB := Lib.hid hb
            clear hb
            generalize hhs : ys.take j = hs at *
            have HHS := Lib.hid hhs
            clear hhs
            go_wp2_with (at_builtin; go_loud (refine wpList_append_lies _ rfl _ _ _ rfl 0 28 i0 (.int .u32 0) 1 4 Tryz.underlying24 hi hz0 hz1 hz2 rfl (by omega) u8 hs.length _ rfl (HH.out.alloc _) ⟨wr.heap.size, 0, none⟩ 1 1 [.int .u32 (x : Int)] rfl rfl ?hnews ?h1 (by omega) ?h63 (by omega) (Nat.zero_le _) (wr.heap.size + 1) (by simp) ?_))
            case hnews =>
              intro i u hi
              have : i = 0 := by simpa using (List.getElem?_eq_some_iff.1 hi).1
              subst this
              simp only [List.getElem?_cons_zero, Option.some.injEq] at hi
              subst hi
              exact (Blk.new wr #[.int .u32 (x : Int)] 28).cell 0 rfl
            case h1 =>
              intro u hu
              simp only [List.mem_singleton] at hu
              subst hu; rfl
            case h63 => unfold maxLen; omega
            intro g cap w3 hown1 hgrow hat hglt
            have hrel : OutRel (ys.take (j + 1)) w2 (.slice (some ⟨g, 0, none⟩) (j + 1) cap) w3 := OutRel.push HNX.out hlen HH.out HFF.out HO.out hown1 hgrow hat
            have cp3 := ((HF1.out).then hrel.2.1).cell cp (by simp)
            have HREL := Lib.hid hrel
            clear hrel hown1 hgrow hat
          · by_cases h2 : 2 ≤ x
            · have t : decide ((x : Int) < ((([] : List Bdd.Nd).length : Nat) : Int) + 2) = false := by simp; omega
              have hnb2 : (b1 || noNode (ys.take (j + 1))) = true := by rw [HNB.out]; simp [h2]
              have HNB2 := Lib.hid hnb2
              clear hnb2
              go_wp2_with fail
              refine (sto_is (HS.out.fr (HO1.out.2.1.then HREL.out.2.1) (by simp)) (x : Int) (by omega) (by omega)).mono ?_
              rw [t]
              rintro e w4 ⟨rfl, rfl⟩
              go_wp2
              go_roundg (len1 - (j + 1))
              case measure => omega
              case rel => exact ⟨j + 1, by omega, rfl, by go_num, HREL.out, by rw [HNB2.out]⟩
            · have t : decide ((x : Int) < ((([] : List Bdd.Nd).length : Nat) : Int) + 2) = true := by simp; omega
              have hnb2 : (b1 || noNode (ys.take (j + 1))) = false := by rw [HNB.out]; simp; omega
              have HNB2 := Lib.hid hnb2
              clear hnb2
              go_wp2_with fail
              refine (sto_is (HS.out.fr (HO1.out.2.1.then HREL.out.2.1) (by simp)) (x : Int) (by omega) (by omega)).mono ?_
              rw [t]
              rintro e w4 ⟨rfl, rfl⟩
              go_wp2
              go_roundg (len1 - (j + 1))
              case measure => omega
              case rel => exact ⟨j + 1, by omega, rfl, by go_num, HREL.out, by rw [HNB2.out]⟩
          · have hnb2 : (b1 || noNode (ys.take (j + 1))) = true := by rw [HNB.out]; rfl
            have HNB2 := Lib.hid hnb2
            clear hnb2
            go_wp2
            go_roundg (len1 - (j + 1))
            case measure => omega
            case rel => exact ⟨j + 1, by omega, rfl, by go_num, HREL.out, by rw [HNB2.out]⟩
        · have e : len1 = j := by omega
          subst e
          rw [List.take_of_length_le (by omega)] at hO
          rw [List.take_of_length_le (by omega : ys.length ≤ len1)]
          have h12 := HO1.out.2.1.then hO.2.1
          have hR : ∀ c : Int, ((c = 0 ∧ ∃ (m : Nat) (F G : Nat → Fn), xs.length = m ∧ ys.length = m ∧ 1 ≤ m ∧ m ≤ 8 ∧ DenL 3 [] xs F ∧ DenL 3 [] ys G) ∨ (c = 40 ∧ badLen [(u7, xs), (u8, ys)]) ∨ (c = 101 ∧ ¬ badLen [(u7, xs), (u8, ys)] ∧ badNd [] [(u7, xs), (u8, ys)])) → RawAt w wr s B [] u7 u8 xs ys c := fun c hc =>
            ⟨⟨HS.out.fr h12 (by simp), HF1.out.then hO.2.1, fun k hk => Nat.le_trans hF0.size (hB k hk)⟩,
              ⟨HO1.out.1.fr hO.2.1 (by simp), fun k hk hb => by have := HO1.out.2.2 k hk; have := HS.out.mem.2 k hb; omega⟩,
              ⟨hO.1, fun k hk hb => by have := hO.2.2 k hk; have := HO1.out.2.1.size; have := HS.out.mem.2 k hb; omega⟩, HXS.out, HYS.out, by omega, by omega, hc⟩
          have key : (len0 < 1 ∧ RawAt w wr s B [] u7 u8 xs ys 40) ∨ (¬ len0 < 1 ∧ 8 < len0 ∧ RawAt w wr s B [] u7 u8 xs ys 40) ∨ (¬ len0 < 1 ∧ ¬ 8 < len0 ∧ len0 ≠ len1 ∧ RawAt w wr s B [] u7 u8 xs ys 40) ∨ (¬ len0 < 1 ∧ ¬ 8 < len0 ∧ len0 = len1 ∧ (b1 || noNode ys) = true ∧ RawAt w wr s B [] u7 u8 xs ys 101) ∨ (¬ len0 < 1 ∧ ¬ 8 < len0 ∧ len0 = len1 ∧ (b1 || noNode ys) = false ∧ RawAt w wr s B [] u7 u8 xs ys 0) := by
            by_cases q1 : len0 < 1
            · exact .inl ⟨q1, hR 40 (.inr (.inl ⟨rfl, raw_len (.inl (by omega))⟩))⟩
            by_cases q2 : 8 < len0
            · exact .inr (.inl ⟨q1, q2, hR 40 (.inr (.inl ⟨rfl, raw_len (.inr (.inl (by omega)))⟩))⟩)
            by_cases q3 : len0 = len1
            · cases q4 : (b1 || noNode ys)
              · obtain ⟨n1, n2⟩ := Bool.or_eq_false_iff.1 q4
                exact .inr (.inr (.inr (.inr ⟨q1, q2, q3, rfl, hR 0 (.inl ⟨rfl, len0, conL xs, conL ys, hx, by omega, by omega, by omega, den_conL (HB1.out.trans n1), den_conL n2⟩)⟩)))
              · exact .inr (.inr (.inr (.inl ⟨q1, q2, q3, rfl, hR 101 (.inr (.inr ⟨rfl, raw_ok (by omega) (by omega) (by omega), raw_nd (by rw [HB1.out]; exact q4)⟩))⟩)))
            · exact .inr (.inr (.inl ⟨q1, q2, q3, hR 40 (.inr (.inl ⟨rfl, raw_len (.inr (.inr (by omega)))⟩))⟩))
          obtain ⟨pa, pcap, e1, _⟩ := HO1.out.1.shape
          obtain ⟨qa, qcap, e2, _⟩ := hO.1.shape
          rw [hx] at e1
          rw [hy] at e2
          have KEY := Lib.hid key
          clear hR key h12 hO HO1 HF1 HS hB HXS HYS HXC HYC hF0 hF1 HB1
          subst e1 e2
          generalize hbb : (b1 || noNode ys) = bb at *
          clear hbb
          rcases KEY.out with ⟨q1, hR⟩ | ⟨q1, q2, hR⟩ | ⟨q1, q2, q3, hR⟩ | ⟨q1, q2, q3, q4, hR⟩ | ⟨q1, q2, q3, q4, hR⟩
          · have t1 : (len0 : Int) < 1 := by omega
            have HR := Lib.hid hR
            clear hR KEY
            go_wp2_with fail
            refine (add_raw HR.out).mono ?_
            rintro e wa ⟨ra1, ra2, B2, L2, rfl, hr⟩
            have HR2 := Lib.hid hr
            clear hr HR
            go_wp2_with fail
            refine (sub_raw HR2.out).mono ?_
            rintro e wb ⟨rb1, rb2, B3, L3, rfl, hr⟩
            have HR3 := Lib.hid hr
            clear hr HR2
            go_wp2_with fail
            refine (mul_raw HR3.out).mono ?_
            rintro e wc ⟨rc1, B4, L4, rfl, hr⟩
            have HR4 := Lib.hid hr
            clear hr HR3
            go_wp2_with fail
            refine (less_raw HR4.out).mono ?_
            rintro e wd ⟨rd1, B5, L5, rfl, hr⟩
            have HR5 := Lib.hid hr
            clear hr HR4
            go_wp2_with fail
            refine (same_raw HR5.out).mono ?_
            rintro e we ⟨re1, B6, L6, rfl, hr⟩
            have HR6 := Lib.hid hr
            clear hr HR5
            go_wp2_with fail
            refine (ite_raw HR6.out).mono ?_
            rintro e wf ⟨rf1, B7, L7, rfl, hr⟩
            have hbel := hr.ses.fr.below (Nat.le_refl _) (by simp)
            have HBEL := Lib.hid hbel
            clear hr HR6 hbel
            go_wp2
            go_ret
            exact ⟨rfl, HBEL.out⟩
          · have t1 : ¬ (len0 : Int) < 1 := by omega
            have t2 : (8 : Int) < len0 := by omega
            have HR := Lib.hid hR
            clear hR KEY
            go_wp2_with fail
            refine (add_raw HR.out).mono ?_
            rintro e wa ⟨ra1, ra2, B2, L2, rfl, hr⟩
            have HR2 := Lib.hid hr
            clear hr HR
            go_wp2_with fail
            refine (sub_raw HR2.out).mono ?_
            rintro e wb ⟨rb1, rb2, B3, L3, rfl, hr⟩
            have HR3 := Lib.hid hr
            clear hr HR2
            go_wp2_with fail
            refine (mul_raw HR3.out).mono ?_
            rintro e wc ⟨rc1, B4, L4, rfl, hr⟩
            have HR4 := Lib.hid hr
            clear hr HR3
            go_wp2_with fail
            refine (less_raw HR4.out).mono ?_
            rintro e wd ⟨rd1, B5, L5, rfl, hr⟩
            have HR5 := Lib.hid hr
            clear hr HR4
            go_wp2_with fail
            refine (same_raw HR5.out).mono ?_
            rintro e we ⟨re1, B6, L6, rfl, hr⟩
            have HR6 := Lib.hid hr
            clear hr HR5
            go_wp2_with fail
            refine (ite_raw HR6.out).mono ?_
            rintro e wf ⟨rf1, B7, L7, rfl, hr⟩
            have hbel := hr.ses.fr.below (Nat.le_refl _) (by simp)
            have HBEL := Lib.hid hbel
            clear hr HR6 hbel
            go_wp2
            go_ret
            exact ⟨rfl, HBEL.out⟩
          · have t1 : ¬ (len0 : Int) < 1 := by omega
            have t2 : ¬ (8 : Int) < len0 := by omega
            have t3 : ((len0 : Int) != (len1 : Int)) = true := by simp; omega
            have HR := Lib.hid hR
            clear hR KEY q3
            go_wp2_with fail
            refine (add_raw HR.out).mono ?_
            rintro e wa ⟨ra1, ra2, B2, L2, rfl, hr⟩
            have HR2 := Lib.hid hr
            clear hr HR
            go_wp2_with fail
            refine (sub_raw HR2.out).mono ?_
            rintro e wb ⟨rb1, rb2, B3, L3, rfl, hr⟩
            have HR3 := Lib.hid hr
            clear hr HR2
            go_wp2_with fail
            refine (mul_raw HR3.out).mono ?_
            rintro e wc ⟨rc1, B4, L4, rfl, hr⟩
            have HR4 := Lib.hid hr
            clear hr HR3
            go_wp2_with fail
            refine (less_raw HR4.out).mono ?_
            rintro e wd ⟨rd1, B5, L5, rfl, hr⟩
            have HR5 := Lib.hid hr
            clear hr HR4
            go_wp2_with fail
            refine (same_raw HR5.out).mono ?_
            rintro e we ⟨re1, B6, L6, rfl, hr⟩
            have HR6 := Lib.hid hr
            clear hr HR5
            go_wp2_with fail
            refine (ite_raw HR6.out).mono ?_
            rintro e wf ⟨rf1, B7, L7, rfl, hr⟩
            have hbel := hr.ses.fr.below (Nat.le_refl _) (by simp)
            have HBEL := Lib.hid hbel
            clear hr HR6 hbel
            go_wp2
            go_ret
            exact ⟨rfl, HBEL.out⟩
          · have t1 : ¬ (len0 : Int) < 1 := by omega
            have t2 : ¬ (8 : Int) < len0 := by omega
            have t3 : ((len0 : Int) != (len1 : Int)) = false := by simp; omega
            have HR := Lib.hid hR
            subst q4
            clear hR KEY q3
            go_wp2_with fail
            refine (add_raw HR.out).mono ?_
            rintro e wa ⟨ra1, ra2, B2, L2, rfl, hr⟩
            have HR2 := Lib.hid hr
            clear hr HR
            go_wp2_with fail
            refine (sub_raw HR2.out).mono ?_
            rintro e wb ⟨rb1, rb2, B3, L3, rfl, hr⟩
            have HR3 := Lib.hid hr
            clear hr HR2
            go_wp2_with fail
            refine (mul_raw HR3.out).mono ?_
            rintro e wc ⟨rc1, B4, L4, rfl, hr⟩
            have HR4 := Lib.hid hr
            clear hr HR3
            go_wp2_with fail
            refine (less_raw HR4.out).mono ?_
            rintro e wd ⟨rd1, B5, L5, rfl, hr⟩
            have HR5 := Lib.hid hr
            clear hr HR4
            go_wp2_with fail
            refine (same_raw HR5.out).mono ?_
            rintro e we ⟨re1, B6, L6, rfl, hr⟩
            have HR6 := Lib.hid hr
            clear hr HR5
            go_wp2_with fail
            refine (ite_raw HR6.out).mono ?_
            rintro e wf ⟨rf1, B7, L7, rfl, hr⟩
            have hbel := hr.ses.fr.below (Nat.le_refl _) (by simp)
            have HBEL := Lib.hid hbel
            clear hr HR6 hbel
            go_wp2
            go_ret
            exact ⟨rfl, HBEL.out⟩
          · have t1 : ¬ (len0 : Int) < 1 := by omega
            have t2 : ¬ (8 : Int) < len0 := by omega
            have t3 : ((len0 : Int) != (len1 : Int)) = false := by simp; omega
            have HR := Lib.hid hR
            subst q4
            clear hR KEY q3
            go_wp2_with fail
            refine (add_raw HR.out).mono ?_
            rintro e wa ⟨ra1, ra2, B2, L2, rfl, hr⟩
            have HR2 := Lib.hid hr
            clear hr HR
            go_wp2_with fail
            refine (sub_raw HR2.out).mono ?_
            rintro e wb ⟨rb1, rb2, B3, L3, rfl, hr⟩
            have HR3 := Lib.hid hr
            clear hr HR2
            go_wp2_with fail
            refine (mul_raw HR3.out).mono ?_
            rintro e wc ⟨rc1, B4, L4, rfl, hr⟩
            have HR4 := Lib.hid hr
            clear hr HR3
            go_wp2_with fail
            refine (less_raw HR4.out).mono ?_
            rintro e wd ⟨rd1, B5, L5, rfl, hr⟩
            have HR5 := Lib.hid hr
            clear hr HR4
            go_wp2_with fail
            refine (same_raw HR5.out).mono ?_
            rintro e we ⟨re1, B6, L6, rfl, hr⟩
            have HR6 := Lib.hid hr
            clear hr HR5
            go_wp2_with fail
            refine (ite_raw HR6.out).mono ?_
            rintro e wf ⟨rf1, B7, L7, rfl, hr⟩
            have hbel := hr.ses.fr.below (Nat.le_refl _) (by simp)
            have HBEL := Lib.hid hbel
            clear hr HR6 hbel
            go_wp2
            go_ret
            exact ⟨rfl, HBEL.out⟩
end Go.Proofs.YtiojnjihbidbiaaGreat
