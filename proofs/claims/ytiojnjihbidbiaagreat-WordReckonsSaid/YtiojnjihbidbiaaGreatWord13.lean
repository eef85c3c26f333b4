/- word, walked: a product. -/
import Derived.Test.YtiojnjihbidbiaaGreatWordC
import Derived.Test.YtiojnjihbidbiaaGreatBaseB
namespace Go.Proofs.YtiojnjihbidbiaaGreat
open Go.RowKit
attribute [local go_sem ↓] Go.wp_at_zero Go.wp_at_succ
set_option linter.unusedVariables false

/-- Bit x of a times bit i of b, so far as it is made. -/
def rowK (F G : Nat → Fn) (i k x : Nat) : Fn := fun y => decide (i ≤ x) && (decide (x < k) && (F (x - i) y && G i y))
def rowF (F G : Nat → Fn) (i x : Nat) : Fn := fun y => decide (i ≤ x) && (F (x - i) y && G i y)
/-- The product with the lowest bits of b. -/
def mulF (F G : Nat → Fn) : Nat → Nat → Fn
  | 0 => fun _ _ => false
  | i + 1 => sumF addC (mulF F G i) (rowF F G i)

theorem Den.congr {n : Nat} {L : List Bdd.Nd} {h : Nat} {F G : Fn} (d : Den n L h F) (e : ∀ y, F y = G y) : Den n L h G := by
  have : F = G := funext e
  rw [← this]; exact d

theorem DenL.zeros (n m : Nat) (L : List Bdd.Nd) (F : Nat → Fn) (hF : ∀ i y, F i y = false) : DenL n L (List.replicate m 0) F := fun i h hh => by
  rw [List.getElem?_replicate] at hh
  split at hh
  · obtain rfl := Option.some.inj hh
    exact Den.zero.congr fun y => (hF i y).symm
  · cases hh

section
variable {w w' : World} {s n room : Nat} {off : Bool} {B : List Nat} {L : List Bdd.Nd}

theorem row_hs {w : World} {r m : Nat} {rs : List Nat} (h : Blk w r (ints .u32 rs) 28) (l : rs.length = m) (m8 : m ≤ 8) : HsAt w (.slice (some ⟨r, 0, none⟩) m m) rs := by
  have hs : (ints .u32 rs).size = m := by simp [ints, l]
  have := row_lit h (by unfold maxLen; omega)
  rw [hs] at this
  unfold HsAt
  rw [l]
  simpa [ints] using this

/-- A row of the product, before its bit k. -/
def RowRel (s n room : Nat) (off : Bool) (B : List Nat) (L : List Bdd.Nd) (w : World) (F G : Nat → Fn) (m r i k : Nat) (wi : World) : Prop :=
  ∃ (rs : List Nat) (B1 : List Nat) (L1 : List Bdd.Nd), rs.length = m ∧ Evo s n room off B L w B1 L1 wi (31 * (k - i)) ∧ Blk wi r (ints .u32 rs) 28 ∧ DenL n L1 rs (rowK F G i k) ∧ r ∉ B1

def MulRel (s n room : Nat) (off : Bool) (B : List Nat) (L : List Bdd.Nd) (w : World) (F G : Nat → Fn) (m j : Nat) (v : Value) (wr : World) : Prop :=
  ∃ (hs : List Nat) (B' : List Nat) (L' : List Bdd.Nd), hs.length = m ∧ WOut s n room off B L w B' L' wr (1984 * j) v hs ∧ DenL n L' hs (mulF F G j)

theorem rowK_start (F G : Nat → Fn) (i x : Nat) (y : Nat → Bool) : rowK F G i i x y = false := by
  unfold rowK
  by_cases h : i ≤ x
  · simp [h, Nat.not_lt.2 h]
  · simp [h]

theorem rowK_full (F G : Nat → Fn) (i k x : Nat) (hx : x < k) (y : Nat → Bool) : rowK F G i k x y = rowF F G i x y := by
  unfold rowK rowF; simp [hx]

theorem DenL.row_step {L : List Bdd.Nd} {F G : Nat → Fn} {rs : List Nat} {i k h : Nat} (d : DenL n L rs (rowK F G i k)) (ik : i ≤ k) (e : Den n L h fun y => F (k - i) y && G i y) : DenL n L (rs.set k h) (rowK F G i (k + 1)) := fun x z hz => by
  rw [List.getElem?_set] at hz
  split at hz
  · rename_i hx
    subst hx
    split at hz
    · obtain rfl := Option.some.inj hz
      exact e.congr fun y => by unfold rowK; simp [ik]
    · cases hz
  · rename_i hx
    exact (d x z hz).congr fun y => by
      unfold rowK
      rw [show decide (x < k + 1) = decide (x < k) by simp; omega]

theorem RowRel.step {F G : Nat → Fn} {m r i k h1 : Nat} {rs B1 B2 : List Nat} {L1 L2 : List Bdd.Nd} {wi w2 : World} (hl : rs.length = m) (he : Evo s n room off B L w B1 L1 wi (31 * (k - i))) (e2 : Evo s n room off B1 L1 wi B2 L2 w2 31)
    (hb : Blk wi r (ints .u32 rs) 28) (hr : r ∉ B1) (hw : w.heap.size ≤ r) (hd : DenL n L1 rs (rowK F G i k)) (ik : i ≤ k) (q : Den n L2 h1 fun y => F (k - i) y && G i y) :
    RowRel s n room off B L w F G m r i (k + 1) (w2.setCell ⟨r, k, none⟩ (.int .u32 (h1 : Int))) := by
  have hr2 : r ∉ B2 := not_in e2 hr hb.lt
  have he2 := he.trans e2
  have F1 : Fr [r] w2 (w2.setCell ⟨r, k, none⟩ (.int .u32 (h1 : Int))) := (Fr.refl [r] w2).setCell _ (.inl (by simp))
  have hb2 := (hb.fr e2.fr hr).set k (.int .u32 (h1 : Int))
  rw [ints_set] at hb2
  refine ⟨rs.set k h1, B2, L2, by simp [hl], ?_, hb2, (hd.more he.sto.wf e2.gr).row_step ik q, hr2⟩
  exact (⟨e2.sto.fr F1 (fun x hx hm => hr2 (by simp at hm; subst hm; exact hx)), he2.fr.setCell _ (.inr hw), he2.own, he2.gr⟩ : Evo s n room off B L w B2 L2 _ _).mono (by omega)

set_option maxHeartbeats 4000000 in
set_option maxRecDepth 4000 in
theorem mul_word {m : Nat} {av bv : Value} {xs zs : List Nat} {F G : Nat → Fn} (h : Sto w s B n room off L) (hA : HsAt w av xs) (hX : HsAt w bv zs) (oA : ∀ k, av.ownBlock = some k → k ∉ B) (oX : ∀ k, bv.ownBlock = some k → k ∉ B)
    (la : xs.length = m) (lb : zs.length = m) (m1 : 1 ≤ m) (m8 : m ≤ 8) (dA : DenL n L xs F) (dX : DenL n L zs G) (hr : Bdd.high L + 1984 * m + 256 < room ∨ n ≤ 3 ∧ 256 < room) :
    Calls Tryz.prog 32 #[.pointer (some ⟨s, 0, none⟩), av, bv] w fun e w' => ∃ (v : Value) (hs : List Nat) (B' : List Nat) (L' : List Bdd.Nd), e = .returned (.tuple #[v, .int .i64 0]) ∧ WOut s n room off B L w B' L' w' (1984 * m) v hs ∧ hs.length = m ∧ DenL n L' hs (mulF F G m) := by
  obtain ⟨aa, acap, rfl⟩ : ∃ aa acap, av = .slice aa m acap := by obtain ⟨aa, acap, e, _⟩ := hA.shape; exact ⟨aa, acap, by rw [e, la]⟩
  obtain ⟨ba, bcap, rfl⟩ : ∃ aa acap, bv = .slice aa m acap := by obtain ⟨aa, acap, e, _⟩ := hX.shape; exact ⟨aa, acap, by rw [e, lb]⟩
  have R := Lib.hid (refuses_two h hA hX la lb m1 m8 dA dX)
  have F2 : Fr [] w ((w.alloc (.cells #[.slice aa m acap, .slice ba m bcap] 24)).alloc (.cells #[.pointer (some ⟨s, 0, none⟩), .int .i64 0] 145)) := ((Fr.refl [] w).alloc _).alloc _
  have hsz : (w.alloc (.cells #[.slice aa m acap, .slice ba m bcap] 24)).heap.size = w.heap.size + 1 := World.size_alloc _ _
  have hG : GAt ((w.alloc (.cells #[.slice aa m acap, .slice ba m bcap] 24)).alloc (.cells #[.pointer (some ⟨s, 0, none⟩), .int .i64 0] 145)) (w.heap.size + 1) s B n room off L :=
    ⟨by rw [← hsz]; exact Blk.new _ _ _, h.fr F2 (by simp), fun hb => by have := h.mem.2 _ hb; omega⟩
  have HG := Lib.hid hG
  have HE := Lib.hid (hG.sto.evo F2 (by simp))
  have HA := Lib.hid (hA.fr F2 (by simp))
  have HX := Lib.hid (hX.fr F2 (by simp))
  have HDA := Lib.hid dA
  have HDX := Lib.hid dX
  have HR := Lib.hid hr
  have HOA := Lib.hid oA
  have HOX := Lib.hid oX
  have hm8 : (m : Int) ≤ 8 := by omega
  have hm0 : (0 : Int) ≤ m := by omega
  clear hG F2 hA hX dA dX hr oA oX h hsz
  go_enter Tryz.func32, Tryz.ntmps32
  go_wp2_with fail
  refine R.out.mono ?_
  rintro e w1 ⟨rfl, rfl⟩
  have hmk := run_make_zeros (P := Tryz.prog) ((w.alloc (.cells #[.slice aa m acap, .slice ba m bcap] 24)).alloc (.cells #[.pointer (some ⟨s, 0, none⟩), .int .i64 0] 145)) 24 28 (.int .u32 0) 4 .u32 Tryz.underlying24 Tryz.info_handle rfl m (by omega) (by omega)
  have hsz2 : ((w.alloc (.cells #[.slice aa m acap, .slice ba m bcap] 24)).alloc (.cells #[.pointer (some ⟨s, 0, none⟩), .int .i64 0] 145)).heap.size = w.heap.size + 1 + 1 := by simp
  go_wp2_with fail
  clear hmk
  generalize (w.alloc (.cells #[.slice aa m acap, .slice ba m bcap] 24)).alloc (.cells #[.pointer (some ⟨s, 0, none⟩), .int .i64 0] 145) = wg at *
  go_loopg [10, 31] m (fun kk v i wr => ∃ j : Nat, j ≤ m ∧ kk = m - j ∧ i = .int .i64 (j : Int) ∧ MulRel s n room off B L wg F G m j v wr)
  case atStart =>
    have F1 : Fr [] wg (wg.alloc (.cells (ints .u32 (List.replicate m 0)) 28)) := (Fr.refl [] wg).alloc _
    rw [← hsz2]
    refine ⟨0, by omega, by omega, rfl, List.replicate m 0, B, L, by simp, ⟨(HG.out.sto.fr F1 (by simp)).evo F1 (by simp), row_hs (Blk.new _ _ _) (by simp) m8, fun k hk => ?_⟩, DenL.zeros _ _ _ _ fun i y => rfl⟩
    simp only [Value.ownBlock, Option.some.injEq] at hk
    subst hk
    exact ⟨Nat.le_refl _, fun hb => absurd (HG.out.sto.mem.2 _ hb) (by omega)⟩
  case round =>
    obtain ⟨j, hj, hk, rfl, hs, B', L', hl, hW, hD⟩ := hrel
    have hGr := HG.out.evo hW.evo
    by_cases hlt : j < m
    · obtain ⟨z, hz⟩ : ∃ z, zs[j]? = some z := ⟨zs[j], List.getElem?_eq_getElem (by omega)⟩
      obtain ⟨gb, bcap', e2, cb⟩ := (HX.out.fr hW.evo.fr HOX.out).get hz
      injection e2 with e1 e5 e4
      subst e1 e4
      have d2 := (HDX.out j z hz).more HG.out.sto.wf hW.evo.gr
      have hmk := run_make_zeros (P := Tryz.prog) wr 24 28 (.int .u32 0) 4 .u32 Tryz.underlying24 Tryz.info_handle rfl m (by omega) (by omega)
      have hhi := hW.evo.gr.hi
      have hroom : Bdd.high L' + 1984 + 256 < room ∨ n ≤ 3 ∧ 256 < room := by have := HR.out; omega
      have hAr := HA.out.fr hW.evo.fr HOA.out
      have oAr : ∀ k, (Value.slice aa m acap).ownBlock = some k → k ∉ B' := fun k hk => not_in hW.evo (HOA.out k hk) (HA.out.lt hk)
      have F1 : Fr [] wr (wr.alloc (.cells (ints .u32 (List.replicate m 0)) 28)) := (Fr.refl [] wr).alloc _
      have hst : RowRel s n room off B' L' wr F G m wr.heap.size j j (wr.alloc (.cells (ints .u32 (List.replicate m 0)) 28)) :=
        ⟨List.replicate m 0, B', L', by simp, ((hGr.sto.fr F1 (by simp)).evo F1 (by simp)).mono (by omega), Blk.new _ _ _, DenL.zeros _ _ _ _ fun i y => rowK_start F G j i y, fun hb => absurd (hGr.sto.mem.2 _ hb) (by omega)⟩
      have HST := Lib.hid hst
      have HW := Lib.hid hW
      have HD := Lib.hid hD
      have HGR := Lib.hid hGr
      have HD2 := Lib.hid d2
      have HAR := Lib.hid hAr
      have HOAR := Lib.hid oAr
      clear e5 hz hW hD hGr d2 hhi hAr oAr F1 hst
      go_wp2_with fail
      clear hmk
      go_loopg [14] (m - j) (fun kk k wi => ∃ d : Nat, j + d ≤ m ∧ kk = m - (j + d) ∧ k = .int .i64 ((j + d : Nat) : Int) ∧ RowRel s n room off B' L' wr F G m wr.heap.size j (j + d) wi)
      case atStart => exact ⟨0, by omega, by omega, rfl, HST.out⟩
      case round =>
        obtain ⟨d, hd, hk, rfl, rs, B1, L1, hlr, hev, hb, hDr, hr1⟩ := hrel
        have hGi := HGR.out.evo hev
        by_cases hlt2 : j + d < m
        · obtain ⟨x, hx⟩ : ∃ x, xs[d]? = some x := ⟨xs[d], List.getElem?_eq_getElem (by omega)⟩
          obtain ⟨ga, acap', e, ca⟩ := (HAR.out.fr hev.fr HOAR.out).get hx
          injection e with e1 e3 e4
          subst e1 e4
          have hsub : ((j + d : Nat) : Int) - (j : Int) = (d : Int) := by omega
          have d1 := ((HDA.out d x hx).more HG.out.sto.wf HW.out.evo.gr).more HGR.out.sto.wf hev.gr
          have d2 := HD2.out.more HGR.out.sto.wf hev.gr
          have hhi := hev.gr.hi
          have hroom2 : Bdd.high L1 + 31 + 256 < room ∨ n ≤ 3 ∧ 256 < room := by omega
          have HEV := Lib.hid hev
          have HB := Lib.hid hb
          have HDR := Lib.hid hDr
          have HGI := Lib.hid hGi
          have HD1' := Lib.hid d1
          have HD2' := Lib.hid d2
          clear e3 hx hev hb hDr hGi d1 d2 hhi
          go_wp2_with fail
          refine (gand_any HGI.out HD1'.out HD2'.out hroom2).mono ?_
          rintro e w2 ⟨h1, B2, L2, rfl, e2, q⟩
          have hfz := (HB.out.fr e2.fr hr1).free (j + d)
          have q' : Den n L2 h1 fun y => F (j + d - j) y && G j y := by rw [Nat.add_sub_cancel_left]; exact q
          have hnx := RowRel.step hlr HEV.out e2 HB.out hr1 (Nat.le_refl _) HDR.out (by omega) q'
          have hc0 := (HB.out.fr e2.fr hr1).cell (j + d) (ints_get .u32 rs (j + d) (by omega))
          have HNX := Lib.hid hnx
          clear e2 q q' hnx
          go_wp2
          go_roundg (m - (j + d + 1))
          case measure => omega
          case rel => exact ⟨d + 1, by omega, rfl, by go_num, HNX.out⟩
        · have hd' : j + d = m := by omega
          rw [hd'] at hev hDr
          have hhi := hev.gr.hi
          have hroom2 : Bdd.high L1 + 217 * m + 256 < room ∨ n ≤ 3 ∧ 256 < room := by omega
          have dR : DenL n L1 rs (rowF F G j) := fun x z hz => (hDr x z hz).congr fun y => rowK_full F G j m x (by have := (List.getElem?_eq_some_iff.1 hz).1; omega) y
          have dO := HD.out.more HGR.out.sto.wf hev.gr
          have aO := HW.out.at.evo hev
          have HCH := Lib.hid (chain_adder hGi aO.row (row_hs hb hlr m8) aO.own (fun k hk => by simp only [Value.ownBlock, Option.some.injEq] at hk; subst hk; exact hr1) hl hlr (by omega) dO dR hroom2)
          obtain ⟨oa, ocap, rfl⟩ : ∃ oa ocap, u10 = .slice oa m ocap := by obtain ⟨aa, acap, e, _⟩ := aO.row.shape; exact ⟨aa, acap, by rw [e, hl]⟩
          have HEV := Lib.hid (HW.out.evo.trans hev)
          clear hev hDr hGi dR dO aO hb hhi
          go_wp2_with fail
          refine HCH.out.mono ?_
          rintro e w3 ⟨v3, hs3, k3, B3, L3, rfl, hW3, hl3, hD3, _⟩
          have hnx : MulRel s n room off B L wg F G m (j + 1) v3 w3 := ⟨hs3, B3, L3, hl3, WOut.from HEV.out hW3 (by omega), hD3⟩
          have HNX := Lib.hid hnx
          clear hnx hW3 hD3
          go_wp2
          go_roundg (m - (j + 1))
          case measure => omega
          case rel => exact ⟨j + 1, by omega, rfl, by go_num, HNX.out⟩
    · have e : j = m := by omega
      subst e
      have c1 := hGr.blk.cell 1 (v := .int .i64 0) rfl
      have HW := Lib.hid (WOut.from HE.out hW (Nat.le_of_eq (Nat.zero_add _)))
      have HD := Lib.hid hD
      clear hW hD hGr
      go_wp2
      go_ret2
      exact ⟨_, hs, B', L', rfl, HW.out, hl, HD.out⟩
end
end Go.Proofs.YtiojnjihbidbiaaGreat
