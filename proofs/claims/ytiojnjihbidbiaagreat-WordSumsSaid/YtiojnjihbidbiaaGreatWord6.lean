/- word, walked: sum, difference, less. -/
import Derived.Test.YtiojnjihbidbiaaGreatWord5
namespace Go.Proofs.YtiojnjihbidbiaaGreat
open Go.RowKit
attribute [local go_sem ↓] Go.wp_at_zero Go.wp_at_succ
set_option linter.unusedVariables false

section
variable {w w' : World} {s n room : Nat} {off : Bool} {B : List Nat} {L : List Bdd.Nd}

theorem two_rows {v1 v2 : Value} {a1 a2 : List Nat} (h1 : HsAt w v1 a1) (h2 : HsAt w v2 a2) : RowsAt (w.alloc (.cells #[v1, v2] 24)) (.slice (some ⟨w.heap.size, 0, none⟩) 2 2) [(v1, a1), (v2, a2)] := by
  refine ⟨row_lit (Blk.new w #[v1, v2] 24) (by unfold maxLen; simp), fun i p hp => ?_⟩
  have F : Fr [] w (w.alloc (.cells #[v1, v2] 24)) := (Fr.refl [] w).alloc _
  match i, hp with
  | 0, hp => obtain rfl := Option.some.inj hp; exact h1.fr F (by simp)
  | 1, hp => obtain rfl := Option.some.inj hp; exact h2.fr F (by simp)
  | i + 2, hp => simp at hp

theorem DenL.nd {hs : List Nat} {F : Nat → Fn} (d : DenL n L hs F) {i x : Nat} (hx : hs[i]? = some x) : x < L.length + 2 := Bdd.isNd_tab.1 (d i x hx).1

theorem two_ok {v1 v2 : Value} {a1 a2 : List Nat} {F G : Nat → Fn} {m : Nat} (l1 : a1.length = m) (l2 : a2.length = m) (m1 : 1 ≤ m) (m8 : m ≤ 8) (d1 : DenL n L a1 F) (d2 : DenL n L a2 G) : ¬ badLen [(v1, a1), (v2, a2)] ∧ ¬ badNd L [(v1, a1), (v2, a2)] := by
  constructor
  · rintro ⟨i, p, q, hp, hq, hb⟩
    have hq' : q = (v1, a1) := by simpa using hq.symm
    subst hq'
    match i, hp with
    | 0, hp => obtain rfl := Option.some.inj hp; replace hb : a1.length < 1 ∨ 8 < a1.length ∨ a1.length ≠ a1.length := hb; omega
    | 1, hp => obtain rfl := Option.some.inj hp; replace hb : a2.length < 1 ∨ 8 < a2.length ∨ a2.length ≠ a1.length := hb; omega
    | i + 2, hp => simp at hp
  · rintro ⟨i, p, j, x, hp, hx, hb⟩
    match i, hp with
    | 0, hp => obtain rfl := Option.some.inj hp; have := d1.nd hx; omega
    | 1, hp => obtain rfl := Option.some.inj hp; have := d2.nd hx; omega
    | i + 2, hp => simp at hp

/-- Two good words are joined. -/
theorem refuses_two (h : Sto w s B n room off L) {v1 v2 : Value} {a1 a2 : List Nat} {F G : Nat → Fn} {m : Nat} (h1 : HsAt w v1 a1) (h2 : HsAt w v2 a2) (l1 : a1.length = m) (l2 : a2.length = m) (m1 : 1 ≤ m) (m8 : m ≤ 8) (d1 : DenL n L a1 F) (d2 : DenL n L a2 G) :
    Calls Tryz.prog 98 #[.pointer (some ⟨s, 0, none⟩), .slice (some ⟨w.heap.size, 0, none⟩) 2 2] (w.alloc (.cells #[v1, v2] 24)) fun e w' => e = .returned (.int .i64 0) ∧ w.alloc (.cells #[v1, v2] 24) = w' := by
  have hb := two_ok (v1 := v1) (v2 := v2) l1 l2 m1 m8 d1 d2
  have hlen := h.len
  refine (refuses_any (h.fr ((Fr.refl [] w).alloc _) (by simp)) (two_rows h1 h2) (by simp) (fun i p j x hp hx => ?_) (fun i p hp => ?_)).mono ?_
  · match i, hp with
    | 0, hp => obtain rfl := Option.some.inj hp; have := d1.nd hx; omega
    | 1, hp => obtain rfl := Option.some.inj hp; have := d2.nd hx; omega
    | i + 2, hp => simp at hp
  · match i, hp with
    | 0, hp => obtain rfl := Option.some.inj hp; show a1.length < _; omega
    | 1, hp => obtain rfl := Option.some.inj hp; show a2.length < _; omega
    | i + 2, hp => simp at hp
  · rintro e w' ⟨e1, hr⟩
    refine ⟨?_, e1⟩
    rcases hr with ⟨_, hr⟩ | ⟨_, _, hr⟩ | ⟨e, _⟩
    · exact absurd hr hb.1
    · exact absurd hr hb.2
    · exact e

/-- What sum and difference answer. -/
def AddPost (s n room : Nat) (off : Bool) (B : List Nat) (L : List Bdd.Nd) (w : World) (m c : Nat) (F : Nat → Fn) (G : Fn) (e : Ending) (w' : World) : Prop :=
  ∃ (v : Value) (hs : List Nat) (k : Nat) (B' : List Nat) (L' : List Bdd.Nd), e = .returned (.tuple #[v, .int .u32 (k : Int), .int .i64 0]) ∧ WOut s n room off B L w B' L' w' c v hs ∧ hs.length = m ∧ DenL n L' hs F ∧ Den n L' k G

theorem WOut.from {B1 : List Nat} {L1 : List Bdd.Nd} {w1 : World} {B' : List Nat} {L' : List Bdd.Nd} {c c1 c2 : Nat} {v : Value} {hs : List Nat} (e : Evo s n room off B L w B1 L1 w1 c1) (h : WOut s n room off B1 L1 w1 B' L' w' c2 v hs) (hc : c1 + c2 ≤ c) : WOut s n room off B L w B' L' w' c v hs :=
  ⟨(e.trans h.evo).mono hc, h.row, fun k hk => ⟨by have := e.fr.size; have := (h.own k hk).1; omega, (h.own k hk).2⟩⟩

set_option maxHeartbeats 1000000 in
set_option maxRecDepth 4000 in
theorem chained_adder {m : Nat} {av bv : Value} {xs zs : List Nat} {F G : Nat → Fn} (h : Sto w s B n room off L) (hA : HsAt w av xs) (hX : HsAt w bv zs) (oA : ∀ k, av.ownBlock = some k → k ∉ B) (oX : ∀ k, bv.ownBlock = some k → k ∉ B)
    (la : xs.length = m) (lb : zs.length = m) (m1 : 1 ≤ m) (m8 : m ≤ 8) (dA : DenL n L xs F) (dX : DenL n L zs G) (hr : Bdd.high L + 217 * m + 256 < room) :
    Calls Tryz.prog 89 #[.pointer (some ⟨s, 0, none⟩), av, bv, fnV 90] w (AddPost s n room off B L w m (217 * m) (sumF addC F G) (cry addC F G m)) := by
  obtain ⟨aa, acap, rfl⟩ : ∃ aa acap, av = .slice aa m acap := by obtain ⟨aa, acap, e, _⟩ := hA.shape; exact ⟨aa, acap, by rw [e, la]⟩
  obtain ⟨ba, bcap, rfl⟩ : ∃ aa acap, bv = .slice aa m acap := by obtain ⟨aa, acap, e, _⟩ := hX.shape; exact ⟨aa, acap, by rw [e, lb]⟩
  have R := Lib.hid (refuses_two h hA hX la lb m1 m8 dA dX)
  have F2 : Fr [] w ((w.alloc (.cells #[.slice aa m acap, .slice ba m bcap] 24)).alloc (.cells #[.pointer (some ⟨s, 0, none⟩), .int .i64 0] 145)) := ((Fr.refl [] w).alloc _).alloc _
  have hsz : (w.alloc (.cells #[.slice aa m acap, .slice ba m bcap] 24)).heap.size = w.heap.size + 1 := World.size_alloc _ _
  have hG : GAt ((w.alloc (.cells #[.slice aa m acap, .slice ba m bcap] 24)).alloc (.cells #[.pointer (some ⟨s, 0, none⟩), .int .i64 0] 145)) (w.heap.size + 1) s B n room off L :=
    ⟨by rw [← hsz]; exact Blk.new _ _ _, h.fr F2 (by simp), fun hb => by have := h.mem.2 _ hb; omega⟩
  have CH := Lib.hid (chain_adder hG (hA.fr F2 (by simp)) (hX.fr F2 (by simp)) oA oX la lb (by omega) dA dX hr)
  have HG := Lib.hid hG
  have HE := Lib.hid (hG.sto.evo F2 (by simp))
  clear hG F2 hA hX dA dX hr oA oX h
  go_enter Tryz.func89, Tryz.ntmps89
  go_wp2_with fail
  refine R.out.mono ?_
  rintro e w1 ⟨rfl, rfl⟩
  go_wp2_with fail
  refine CH.out.mono ?_
  rintro e w2 ⟨v, hs, k, B', L', rfl, hW, hl, hD, hK⟩
  have hg := HG.out.evo hW.evo
  have c1 := hg.blk.cell 1 (v := .int .i64 0) rfl
  have hfin : AddPost s n room off B L w m (217 * m) (sumF addC F G) (cry addC F G m) (.returned (.tuple #[v, .int .u32 (k : Int), .int .i64 0])) w2 :=
    ⟨v, hs, k, B', L', rfl, WOut.from HE.out hW (by omega), hl, hD, hK⟩
  have HF := Lib.hid hfin
  clear hfin hW hD hK hg hl
  go_wp2
  refine bodyPost_ret (results_tmp3 rfl _ _ _) rfl ?_
  exact HF.out

theorem add_word {m : Nat} {av bv : Value} {xs zs : List Nat} {F G : Nat → Fn} (h : Sto w s B n room off L) (hA : HsAt w av xs) (hX : HsAt w bv zs) (oA : ∀ k, av.ownBlock = some k → k ∉ B) (oX : ∀ k, bv.ownBlock = some k → k ∉ B)
    (la : xs.length = m) (lb : zs.length = m) (m1 : 1 ≤ m) (m8 : m ≤ 8) (dA : DenL n L xs F) (dX : DenL n L zs G) (hr : Bdd.high L + 217 * m + 256 < room) :
    Calls Tryz.prog 26 #[.pointer (some ⟨s, 0, none⟩), av, bv] w (AddPost s n room off B L w m (217 * m) (sumF addC F G) (cry addC F G m)) := by
  have CH := Lib.hid (chained_adder h hA hX oA oX la lb m1 m8 dA dX hr)
  clear h hA hX oA oX dA dX hr
  go_enter Tryz.func26, Tryz.ntmps26
  go_wp2_with fail
  refine CH.out.mono ?_
  rintro e w2 ⟨v, hs, k, B', L', rfl, hr⟩
  go_wp2
  refine bodyPost_ret (results_tmp3 rfl _ _ _) rfl ?_
  exact ⟨v, hs, k, B', L', rfl, hr⟩

set_option maxHeartbeats 1000000 in
set_option maxRecDepth 4000 in
theorem chained_taker {m : Nat} {av bv : Value} {xs zs : List Nat} {F G : Nat → Fn} (h : Sto w s B n room off L) (hA : HsAt w av xs) (hX : HsAt w bv zs) (oA : ∀ k, av.ownBlock = some k → k ∉ B) (oX : ∀ k, bv.ownBlock = some k → k ∉ B)
    (la : xs.length = m) (lb : zs.length = m) (m1 : 1 ≤ m) (m8 : m ≤ 8) (dA : DenL n L xs F) (dX : DenL n L zs G) (hr : Bdd.high L + 217 * m + 256 < room) :
    Calls Tryz.prog 89 #[.pointer (some ⟨s, 0, none⟩), av, bv, fnV 91] w (AddPost s n room off B L w m (217 * m) (sumF subC F G) (cry subC F G m)) := by
  obtain ⟨aa, acap, rfl⟩ : ∃ aa acap, av = .slice aa m acap := by obtain ⟨aa, acap, e, _⟩ := hA.shape; exact ⟨aa, acap, by rw [e, la]⟩
  obtain ⟨ba, bcap, rfl⟩ : ∃ aa acap, bv = .slice aa m acap := by obtain ⟨aa, acap, e, _⟩ := hX.shape; exact ⟨aa, acap, by rw [e, lb]⟩
  have R := Lib.hid (refuses_two h hA hX la lb m1 m8 dA dX)
  have F2 : Fr [] w ((w.alloc (.cells #[.slice aa m acap, .slice ba m bcap] 24)).alloc (.cells #[.pointer (some ⟨s, 0, none⟩), .int .i64 0] 145)) := ((Fr.refl [] w).alloc _).alloc _
  have hsz : (w.alloc (.cells #[.slice aa m acap, .slice ba m bcap] 24)).heap.size = w.heap.size + 1 := World.size_alloc _ _
  have hG : GAt ((w.alloc (.cells #[.slice aa m acap, .slice ba m bcap] 24)).alloc (.cells #[.pointer (some ⟨s, 0, none⟩), .int .i64 0] 145)) (w.heap.size + 1) s B n room off L :=
    ⟨by rw [← hsz]; exact Blk.new _ _ _, h.fr F2 (by simp), fun hb => by have := h.mem.2 _ hb; omega⟩
  have CH := Lib.hid (chain_taker hG (hA.fr F2 (by simp)) (hX.fr F2 (by simp)) oA oX la lb (by omega) dA dX hr)
  have HG := Lib.hid hG
  have HE := Lib.hid (hG.sto.evo F2 (by simp))
  clear hG F2 hA hX dA dX hr oA oX h
  go_enter Tryz.func89, Tryz.ntmps89
  go_wp2_with fail
  refine R.out.mono ?_
  rintro e w1 ⟨rfl, rfl⟩
  go_wp2_with fail
  refine CH.out.mono ?_
  rintro e w2 ⟨v, hs, k, B', L', rfl, hW, hl, hD, hK⟩
  have hg := HG.out.evo hW.evo
  have c1 := hg.blk.cell 1 (v := .int .i64 0) rfl
  have hfin : AddPost s n room off B L w m (217 * m) (sumF subC F G) (cry subC F G m) (.returned (.tuple #[v, .int .u32 (k : Int), .int .i64 0])) w2 :=
    ⟨v, hs, k, B', L', rfl, WOut.from HE.out hW (by omega), hl, hD, hK⟩
  have HF := Lib.hid hfin
  clear hfin hW hD hK hg hl
  go_wp2
  refine bodyPost_ret (results_tmp3 rfl _ _ _) rfl ?_
  exact HF.out

theorem sub_word {m : Nat} {av bv : Value} {xs zs : List Nat} {F G : Nat → Fn} (h : Sto w s B n room off L) (hA : HsAt w av xs) (hX : HsAt w bv zs) (oA : ∀ k, av.ownBlock = some k → k ∉ B) (oX : ∀ k, bv.ownBlock = some k → k ∉ B)
    (la : xs.length = m) (lb : zs.length = m) (m1 : 1 ≤ m) (m8 : m ≤ 8) (dA : DenL n L xs F) (dX : DenL n L zs G) (hr : Bdd.high L + 217 * m + 256 < room) :
    Calls Tryz.prog 27 #[.pointer (some ⟨s, 0, none⟩), av, bv] w (AddPost s n room off B L w m (217 * m) (sumF subC F G) (cry subC F G m)) := by
  have CH := Lib.hid (chained_taker h hA hX oA oX la lb m1 m8 dA dX hr)
  clear h hA hX oA oX dA dX hr
  go_enter Tryz.func27, Tryz.ntmps27
  go_wp2_with fail
  refine CH.out.mono ?_
  rintro e w2 ⟨v, hs, k, B', L', rfl, hr⟩
  go_wp2
  refine bodyPost_ret (results_tmp3 rfl _ _ _) rfl ?_
  exact ⟨v, hs, k, B', L', rfl, hr⟩

theorem less_word {m : Nat} {av bv : Value} {xs zs : List Nat} {F G : Nat → Fn} (h : Sto w s B n room off L) (hA : HsAt w av xs) (hX : HsAt w bv zs) (oA : ∀ k, av.ownBlock = some k → k ∉ B) (oX : ∀ k, bv.ownBlock = some k → k ∉ B)
    (la : xs.length = m) (lb : zs.length = m) (m1 : 1 ≤ m) (m8 : m ≤ 8) (dA : DenL n L xs F) (dX : DenL n L zs G) (hr : Bdd.high L + 217 * m + 256 < room) :
    Calls Tryz.prog 33 #[.pointer (some ⟨s, 0, none⟩), av, bv] w fun e w' => ∃ (k : Nat) (B' : List Nat) (L' : List Bdd.Nd), e = .returned (.tuple #[.int .u32 (k : Int), .int .i64 0]) ∧ Evo s n room off B L w B' L' w' (217 * m) ∧ Den n L' k (cry subC F G m) := by
  have CH := Lib.hid (sub_word h hA hX oA oX la lb m1 m8 dA dX hr)
  clear h hA hX oA oX dA dX hr
  go_enter Tryz.func33, Tryz.ntmps33
  go_wp2_with fail
  refine CH.out.mono ?_
  rintro e w2 ⟨v, hs, k, B', L', rfl, hW, hl, hD, hK⟩
  go_wp2
  go_ret2
  exact ⟨k, B', L', rfl, hW.evo, hK⟩

end
end Go.Proofs.YtiojnjihbidbiaaGreat
