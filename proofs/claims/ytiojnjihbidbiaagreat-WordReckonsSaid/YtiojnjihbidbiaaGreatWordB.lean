/- word, walked: chains. -/
import Derived.Test.YtiojnjihbidbiaaGreatWordA
namespace Go.Proofs.YtiojnjihbidbiaaGreat
open Go.RowKit
attribute [local go_sem ↓] Go.wp_at_zero Go.wp_at_succ
set_option linter.unusedVariables false

abbrev Fn := (Nat → Bool) → Bool

/-- What is carried into bit j. -/
def cry (bc : Bool → Bool → Bool → Bool) (F G : Nat → Fn) : Nat → Fn
  | 0 => fun _ => false
  | j + 1 => fun y => bc (F j y) (G j y) (cry bc F G j y)
/-- Bit j of the sum. -/
def sumF (bc : Bool → Bool → Bool → Bool) (F G : Nat → Fn) (j : Nat) : Fn := fun y => (F j y ^^ G j y) ^^ cry bc F G j y
def addC (a b c : Bool) : Bool := (a && b) || (c && (a || b))
def subC (a b c : Bool) : Bool := (!a && b) || (c && (!a || b))

section
variable {w w' : World} {s n room : Nat} {off : Bool} {B : List Nat} {L : List Bdd.Nd}

theorem GAt.fr {O : List Nat} {g : Nat} (h : GAt w g s B n room off L) (f : Fr O w w') (hO : ∀ k ∈ B, k ∉ O) (hg : g ∉ O) : GAt w' g s B n room off L := ⟨h.blk.fr f hg, h.sto.fr f hO, h.apart⟩

/-- What a chain answers. -/
def ChainPost (s n room : Nat) (off : Bool) (B : List Nat) (L : List Bdd.Nd) (w : World) (m c : Nat) (F : Nat → Fn) (G : Fn) (e : Ending) (w' : World) : Prop :=
  ∃ (v : Value) (hs : List Nat) (k : Nat) (B' : List Nat) (L' : List Bdd.Nd), e = .returned (.tuple #[v, .int .u32 (k : Int)]) ∧ WOut s n room off B L w B' L' w' c v hs ∧ hs.length = m ∧ DenL n L' hs F ∧ Den n L' k G

/-- Before bit j. -/
def ChainRel (s n room : Nat) (off : Bool) (B : List Nat) (L : List Bdd.Nd) (w : World) (bc : Bool → Bool → Bool → Bool) (F G : Nat → Fn) (j : Nat) (v cv : Value) (wr : World) : Prop :=
  ∃ (hs : List Nat) (k : Nat) (B' : List Nat) (L' : List Bdd.Nd), cv = .int .u32 (k : Int) ∧ hs.length = j ∧ WOut s n room off B L w B' L' wr (217 * j) v hs ∧ DenL n L' hs (sumF bc F G) ∧ Den n L' k (cry bc F G j)

set_option maxHeartbeats 2000000 in
set_option maxRecDepth 4000 in
theorem chain_adder {g m : Nat} {av bv : Value} {xs zs : List Nat} {F G : Nat → Fn} (h : GAt w g s B n room off L) (hA : HsAt w av xs) (hX : HsAt w bv zs) (oA : ∀ k, av.ownBlock = some k → k ∉ B) (oX : ∀ k, bv.ownBlock = some k → k ∉ B)
    (la : xs.length = m) (lb : zs.length = m) (hm : m < 1000) (dA : DenL n L xs F) (dX : DenL n L zs G) (hr : Bdd.high L + 217 * m + 256 < room ∨ n ≤ 3 ∧ 256 < room) :
    Calls Tryz.prog 100 #[.pointer (some ⟨g, 0, none⟩), av, bv, fnV 90] w (ChainPost s n room off B L w m (217 * m) (sumF addC F G) (cry addC F G m)) := by
  obtain ⟨i0, hi, hz0, hz1, hz2⟩ := info_parts Tryz.info_handle
  obtain ⟨aa, acap, rfl⟩ : ∃ aa acap, av = .slice aa m acap := by obtain ⟨aa, acap, e, _⟩ := hA.shape; exact ⟨aa, acap, by rw [e, la]⟩
  obtain ⟨ba, bcap, rfl⟩ : ∃ aa acap, bv = .slice aa m acap := by obtain ⟨aa, acap, e, _⟩ := hX.shape; exact ⟨aa, acap, by rw [e, lb]⟩
  have HR := Lib.hid hr
  have HOA := Lib.hid oA
  have HOX := Lib.hid oX
  have HDA := Lib.hid dA
  have HDX := Lib.hid dX
  have HG := Lib.hid h
  have HA := Lib.hid hA
  have HX := Lib.hid hX
  clear hr oA oX dA dX h hA hX
  go_enter Tryz.func100, Tryz.ntmps100
  go_wp2_with fail
  go_loopg [10, 11, 16] m (fun kk v cv i wr => ∃ j : Nat, j ≤ m ∧ kk = m - j ∧ i = .int .i64 (j : Int) ∧ ChainRel s n room off B L w addC F G j v cv wr)
  case atStart => exact ⟨0, by omega, by omega, rfl, [], 0, B, L, rfl, rfl, WOut.start HG.out.sto, DenL.nil _ _ _, Den.zero⟩
  case round =>
    obtain ⟨j, hj, hk, rfl, hs, k, B', L', rfl, hl, hW, hD, hC⟩ := hrel
    by_cases hlt : j < m
    · obtain ⟨x, hx⟩ : ∃ x, xs[j]? = some x := ⟨xs[j], List.getElem?_eq_getElem (by omega)⟩
      obtain ⟨z, hz⟩ : ∃ z, zs[j]? = some z := ⟨zs[j], List.getElem?_eq_getElem (by omega)⟩
      have F0 : Fr [] wr wr.drew := (Fr.refl [] wr).drew
      have hGr := HG.out.evo hW.evo
      have hGd := hGr.fr F0 (by simp) (by simp)
      have eD : Evo s n room off B' L' wr B' L' wr.drew 0 := hGd.sto.evo F0 (by simp)
      have hAr := HA.out.fr hW.evo.fr HOA.out
      have hXr := HX.out.fr hW.evo.fr HOX.out
      obtain ⟨ga, acap', e, ca⟩ := hAr.get hx
      injection e with e1 e3 e4
      subst e1 e4
      obtain ⟨gb, bcap', e2, cb⟩ := hXr.get hz
      injection e2 with e1 e5 e4
      subst e1 e4
      have hga : ga ∉ B' := fun hb => by
        rcases hW.evo.own ga hb with h1 | h1
        · exact HOA.out ga rfl h1
        · have := HA.out.lt (k := ga) rfl; omega
      have hgb : gb ∉ B' := fun hb => by
        rcases hW.evo.own gb hb with h1 | h1
        · exact HOX.out gb rfl h1
        · have := HX.out.lt (k := gb) rfl; omega
      have d1 := (HDA.out j x hx).more HG.out.sto.wf hW.evo.gr
      have d2 := (HDX.out j z hz).more HG.out.sto.wf hW.evo.gr
      have hhi := hW.evo.gr.hi
      have hroom : Bdd.high L' + 217 + 256 < room ∨ n ≤ 3 ∧ 256 < room := by have := HR.out; omega
      have HW := Lib.hid hW
      have HD := Lib.hid hD
      have HC := Lib.hid hC
      have HGD := Lib.hid hGd
      have HED := Lib.hid eD
      have HD1 := Lib.hid d1
      have HD2 := Lib.hid d2
      clear e3 e5 hx hz hW hD hC hGd hGr eD hAr hXr d1 d2 hhi F0
      go_wp2_with fail
      go_region_held3 (fun w' => w'.cell? ⟨ga, j, none⟩ = some (.int .u32 (x : Int)) ∧ w'.cell? ⟨gb, j, none⟩ = some (.int .u32 (z : Int))) (go_keep)
        ((go_at_call 90; refine (gadder_any (by exact HGD.out) HD1.out HD2.out HC.out hroom).mono ?_; rintro e w1 ⟨h1, k1, B1, L1, rfl, hev, e1, e2⟩; have k0 := hev.fr.cell (by exact ca) hga; have k1' := hev.fr.cell (by exact cb) hgb))
      have hev2 := HED.out.trans hev
      have hW1 := HW.out.step hev2
      have hD1 := (HD.out.more HW.out.evo.gr.wf hev.gr).push hl (F := sumF addC F G) e1
      have hC1 : Den n L1 k1 (cry addC F G (j + 1)) := e2
      have HW1 := Lib.hid hW1
      have HD1' := Lib.hid hD1
      have HC1 := Lib.hid hC1
      clear hev2 hW1 hD1 hC1 hev e1 e2
      go_wp2_with (at_builtin; go_loud (refine wpList_append_lies _ rfl _ _ _ rfl 0 28 i0 (.int .u32 0) 1 4 Tryz.underlying24 hi hz0 hz1 hz2 rfl (by omega) u10 hs.length _ rfl (HW1.out.row.alloc _) ⟨w1.heap.size, 0, none⟩ 1 1 [.int .u32 (h1 : Int)] rfl rfl ?hnews ?h1 (by omega) ?h63 (by omega) (Nat.zero_le _) (w1.heap.size + 1) (by simp) ?_))
      case hnews =>
        intro i u hi
        have : i = 0 := by simpa using (List.getElem?_eq_some_iff.1 hi).1
        subst this
        simp only [List.getElem?_cons_zero, Option.some.injEq] at hi
        subst hi
        exact (Blk.new w1 #[.int .u32 (h1 : Int)] 28).cell 0 rfl
      case h1 =>
        intro u hu
        simp only [List.mem_singleton] at hu
        subst hu; rfl
      case h63 => unfold maxLen; omega
      · intro g' cap' w3 hown3 hgrow hat hglt
        have hW3 := HW1.out.push hl hown3 hgrow hat
        have hrel : ChainRel s n room off B L w addC F G (j + 1) (.slice (some ⟨g', 0, none⟩) (j + 1) cap') (.int .u32 (k1 : Int)) w3 :=
          ⟨_, k1, B1, L1, rfl, by simp [hl], ⟨hW3.evo.mono (by omega), hW3.row, hW3.own⟩, HD1'.out, HC1.out⟩
        have HREL := Lib.hid hrel
        clear hW3 hrel hown3 hgrow hat
        go_wp2
        go_roundg (m - (j + 1))
        case measure => omega
        case rel => exact ⟨j + 1, by omega, rfl, by go_num, HREL.out⟩
    · have e : j = m := by omega
      have hfin : ChainPost s n room off B L w m (217 * m) (sumF addC F G) (cry addC F G m) (.returned (.tuple #[u10, .int .u32 (k : Int)])) wr := by
        rw [← e]
        exact ⟨_, hs, k, B', L', rfl, hW, hl, hD, hC⟩
      have HF := Lib.hid hfin
      clear hfin hW hD hC
      go_wp2
      go_ret2
      exact HF.out

set_option maxHeartbeats 2000000 in
set_option maxRecDepth 4000 in
theorem chain_taker {g m : Nat} {av bv : Value} {xs zs : List Nat} {F G : Nat → Fn} (h : GAt w g s B n room off L) (hA : HsAt w av xs) (hX : HsAt w bv zs) (oA : ∀ k, av.ownBlock = some k → k ∉ B) (oX : ∀ k, bv.ownBlock = some k → k ∉ B)
    (la : xs.length = m) (lb : zs.length = m) (hm : m < 1000) (dA : DenL n L xs F) (dX : DenL n L zs G) (hr : Bdd.high L + 217 * m + 256 < room ∨ n ≤ 3 ∧ 256 < room) :
    Calls Tryz.prog 100 #[.pointer (some ⟨g, 0, none⟩), av, bv, fnV 91] w (ChainPost s n room off B L w m (217 * m) (sumF subC F G) (cry subC F G m)) := by
  obtain ⟨i0, hi, hz0, hz1, hz2⟩ := info_parts Tryz.info_handle
  obtain ⟨aa, acap, rfl⟩ : ∃ aa acap, av = .slice aa m acap := by obtain ⟨aa, acap, e, _⟩ := hA.shape; exact ⟨aa, acap, by rw [e, la]⟩
  obtain ⟨ba, bcap, rfl⟩ : ∃ aa acap, bv = .slice aa m acap := by obtain ⟨aa, acap, e, _⟩ := hX.shape; exact ⟨aa, acap, by rw [e, lb]⟩
  have HR := Lib.hid hr
  have HOA := Lib.hid oA
  have HOX := Lib.hid oX
  have HDA := Lib.hid dA
  have HDX := Lib.hid dX
  have HG := Lib.hid h
  have HA := Lib.hid hA
  have HX := Lib.hid hX
  clear hr oA oX dA dX h hA hX
  go_enter Tryz.func100, Tryz.ntmps100
  go_wp2_with fail
  go_loopg [10, 11, 16] m (fun kk v cv i wr => ∃ j : Nat, j ≤ m ∧ kk = m - j ∧ i = .int .i64 (j : Int) ∧ ChainRel s n room off B L w subC F G j v cv wr)
  case atStart => exact ⟨0, by omega, by omega, rfl, [], 0, B, L, rfl, rfl, WOut.start HG.out.sto, DenL.nil _ _ _, Den.zero⟩
  case round =>
    obtain ⟨j, hj, hk, rfl, hs, k, B', L', rfl, hl, hW, hD, hC⟩ := hrel
    by_cases hlt : j < m
    · obtain ⟨x, hx⟩ : ∃ x, xs[j]? = some x := ⟨xs[j], List.getElem?_eq_getElem (by omega)⟩
      obtain ⟨z, hz⟩ : ∃ z, zs[j]? = some z := ⟨zs[j], List.getElem?_eq_getElem (by omega)⟩
      have F0 : Fr [] wr wr.drew := (Fr.refl [] wr).drew
      have hGr := HG.out.evo hW.evo
      have hGd := hGr.fr F0 (by simp) (by simp)
      have eD : Evo s n room off B' L' wr B' L' wr.drew 0 := hGd.sto.evo F0 (by simp)
      have hAr := HA.out.fr hW.evo.fr HOA.out
      have hXr := HX.out.fr hW.evo.fr HOX.out
      obtain ⟨ga, acap', e, ca⟩ := hAr.get hx
      injection e with e1 e3 e4
      subst e1 e4
      obtain ⟨gb, bcap', e2, cb⟩ := hXr.get hz
      injection e2 with e1 e5 e4
      subst e1 e4
      have hga : ga ∉ B' := fun hb => by
        rcases hW.evo.own ga hb with h1 | h1
        · exact HOA.out ga rfl h1
        · have := HA.out.lt (k := ga) rfl; omega
      have hgb : gb ∉ B' := fun hb => by
        rcases hW.evo.own gb hb with h1 | h1
        · exact HOX.out gb rfl h1
        · have := HX.out.lt (k := gb) rfl; omega
      have d1 := (HDA.out j x hx).more HG.out.sto.wf hW.evo.gr
      have d2 := (HDX.out j z hz).more HG.out.sto.wf hW.evo.gr
      have hhi := hW.evo.gr.hi
      have hroom : Bdd.high L' + 217 + 256 < room ∨ n ≤ 3 ∧ 256 < room := by have := HR.out; omega
      have HW := Lib.hid hW
      have HD := Lib.hid hD
      have HC := Lib.hid hC
      have HGD := Lib.hid hGd
      have HED := Lib.hid eD
      have HD1 := Lib.hid d1
      have HD2 := Lib.hid d2
      clear e3 e5 hx hz hW hD hC hGd hGr eD hAr hXr d1 d2 hhi F0
      go_wp2_with fail
      go_region_held3 (fun w' => w'.cell? ⟨ga, j, none⟩ = some (.int .u32 (x : Int)) ∧ w'.cell? ⟨gb, j, none⟩ = some (.int .u32 (z : Int))) (go_keep)
        ((go_at_call 91; refine (gtaker_any (by exact HGD.out) HD1.out HD2.out HC.out hroom).mono ?_; rintro e w1 ⟨h1, k1, B1, L1, rfl, hev, e1, e2⟩; have k0 := hev.fr.cell (by exact ca) hga; have k1' := hev.fr.cell (by exact cb) hgb))
      have hev2 := HED.out.trans hev
      have hW1 := HW.out.step hev2
      have hD1 := (HD.out.more HW.out.evo.gr.wf hev.gr).push hl (F := sumF subC F G) e1
      have hC1 : Den n L1 k1 (cry subC F G (j + 1)) := e2
      have HW1 := Lib.hid hW1
      have HD1' := Lib.hid hD1
      have HC1 := Lib.hid hC1
      clear hev2 hW1 hD1 hC1 hev e1 e2
      go_wp2_with (at_builtin; go_loud (refine wpList_append_lies _ rfl _ _ _ rfl 0 28 i0 (.int .u32 0) 1 4 Tryz.underlying24 hi hz0 hz1 hz2 rfl (by omega) u10 hs.length _ rfl (HW1.out.row.alloc _) ⟨w1.heap.size, 0, none⟩ 1 1 [.int .u32 (h1 : Int)] rfl rfl ?hnews ?h1 (by omega) ?h63 (by omega) (Nat.zero_le _) (w1.heap.size + 1) (by simp) ?_))
      case hnews =>
        intro i u hi
        have : i = 0 := by simpa using (List.getElem?_eq_some_iff.1 hi).1
        subst this
        simp only [List.getElem?_cons_zero, Option.some.injEq] at hi
        subst hi
        exact (Blk.new w1 #[.int .u32 (h1 : Int)] 28).cell 0 rfl
      case h1 =>
        intro u hu
        simp only [List.mem_singleton] at hu
        subst hu; rfl
      case h63 => unfold maxLen; omega
      · intro g' cap' w3 hown3 hgrow hat hglt
        have hW3 := HW1.out.push hl hown3 hgrow hat
        have hrel : ChainRel s n room off B L w subC F G (j + 1) (.slice (some ⟨g', 0, none⟩) (j + 1) cap') (.int .u32 (k1 : Int)) w3 :=
          ⟨_, k1, B1, L1, rfl, by simp [hl], ⟨hW3.evo.mono (by omega), hW3.row, hW3.own⟩, HD1'.out, HC1.out⟩
        have HREL := Lib.hid hrel
        clear hW3 hrel hown3 hgrow hat
        go_wp2
        go_roundg (m - (j + 1))
        case measure => omega
        case rel => exact ⟨j + 1, by omega, rfl, by go_num, HREL.out⟩
    · have e : j = m := by omega
      have hfin : ChainPost s n room off B L w m (217 * m) (sumF subC F G) (cry subC F G m) (.returned (.tuple #[u10, .int .u32 (k : Int)])) wr := by
        rw [← e]
        exact ⟨_, hs, k, B', L', rfl, hW, hl, hD, hC⟩
      have HF := Lib.hid hfin
      clear hfin hW hD hC
      go_wp2
      go_ret2
      exact HF.out

end
end Go.Proofs.YtiojnjihbidbiaaGreat
/- word, walked: sum, difference, less. -/
namespace Go.Proofs.YtiojnjihbidbiaaGreat
open Go.RowKit
attribute [local go_sem ↓] Go.wp_at_zero Go.wp_at_succ
set_option linter.unusedVariables false

section
variable {w w' : World} {s n room : Nat} {off : Bool} {B : List Nat} {L : List Bdd.Nd}

theorem two_rows {v1 v2 : Value} {a1 a2 : List Nat} (h1 : HsAt w v1 a1) (h2 : HsAt w v2 a2) : RowsAt (w.alloc (.cells #[v1, v2] 24)) (.slice (some ⟨w.heap.size, 0, none⟩) 2 2) [(v1, a1), (v2, a2)] := by
  refine ⟨row_lit (Blk.new w #[v1, v2] 24) (by unfold maxLen; simp), fun i p hp => ?_⟩
  have F : Fr [] w (w.alloc (.cells #[v1, v2] 24)) := (Fr.refl [] w).alloc _
  match i, hp with
  | 0, hp => obtain rfl := Option.some.inj hp; exact h1.fr F (by simp)
  | 1, hp => obtain rfl := Option.some.inj hp; exact h2.fr F (by simp)
  | i + 2, hp => simp at hp

theorem DenL.nd {hs : List Nat} {F : Nat → Fn} (d : DenL n L hs F) {i x : Nat} (hx : hs[i]? = some x) : x < L.length + 2 := Bdd.isNd_tab.1 (d i x hx).1

theorem two_ok {v1 v2 : Value} {a1 a2 : List Nat} {F G : Nat → Fn} {m : Nat} (l1 : a1.length = m) (l2 : a2.length = m) (m1 : 1 ≤ m) (m8 : m ≤ 8) (d1 : DenL n L a1 F) (d2 : DenL n L a2 G) : ¬ badLen [(v1, a1), (v2, a2)] ∧ ¬ badNd L [(v1, a1), (v2, a2)] := by
  constructor
  · rintro ⟨i, p, q, hp, hq, hb⟩
    have hq' : q = (v1, a1) := by simpa using hq.symm
    subst hq'
    match i, hp with
    | 0, hp => obtain rfl := Option.some.inj hp; replace hb : a1.length < 1 ∨ 8 < a1.length ∨ a1.length ≠ a1.length := hb; omega
    | 1, hp => obtain rfl := Option.some.inj hp; replace hb : a2.length < 1 ∨ 8 < a2.length ∨ a2.length ≠ a1.length := hb; omega
    | i + 2, hp => simp at hp
  · rintro ⟨i, p, j, x, hp, hx, hb⟩
    match i, hp with
    | 0, hp => obtain rfl := Option.some.inj hp; have := d1.nd hx; omega
    | 1, hp => obtain rfl := Option.some.inj hp; have := d2.nd hx; omega
    | i + 2, hp => simp at hp

/-- Two good words are joined. -/
theorem refuses_two (h : Sto w s B n room off L) {v1 v2 : Value} {a1 a2 : List Nat} {F G : Nat → Fn} {m : Nat} (h1 : HsAt w v1 a1) (h2 : HsAt w v2 a2) (l1 : a1.length = m) (l2 : a2.length = m) (m1 : 1 ≤ m) (m8 : m ≤ 8) (d1 : DenL n L a1 F) (d2 : DenL n L a2 G) :
    Calls Tryz.prog 98 #[.pointer (some ⟨s, 0, none⟩), .slice (some ⟨w.heap.size, 0, none⟩) 2 2] (w.alloc (.cells #[v1, v2] 24)) fun e w' => e = .returned (.int .i64 0) ∧ w.alloc (.cells #[v1, v2] 24) = w' := by
  have hb := two_ok (v1 := v1) (v2 := v2) l1 l2 m1 m8 d1 d2
  have hlen := h.len
  refine (refuses_any (h.fr ((Fr.refl [] w).alloc _) (by simp)) (two_rows h1 h2) (by simp) (fun i p j x hp hx => ?_) (fun i p hp => ?_)).mono ?_
  · match i, hp with
    | 0, hp => obtain rfl := Option.some.inj hp; have := d1.nd hx; omega
    | 1, hp => obtain rfl := Option.some.inj hp; have := d2.nd hx; omega
    | i + 2, hp => simp at hp
  · match i, hp with
    | 0, hp => obtain rfl := Option.some.inj hp; show a1.length < _; omega
    | 1, hp => obtain rfl := Option.some.inj hp; show a2.length < _; omega
    | i + 2, hp => simp at hp
  · rintro e w' ⟨e1, hr⟩
    refine ⟨?_, e1⟩
    rcases hr with ⟨_, hr⟩ | ⟨_, _, hr⟩ | ⟨e, _⟩
    · exact absurd hr hb.1
    · exact absurd hr hb.2
    · exact e

/-- What sum and difference answer. -/
def AddPost (s n room : Nat) (off : Bool) (B : List Nat) (L : List Bdd.Nd) (w : World) (m c : Nat) (F : Nat → Fn) (G : Fn) (e : Ending) (w' : World) : Prop :=
  ∃ (v : Value) (hs : List Nat) (k : Nat) (B' : List Nat) (L' : List Bdd.Nd), e = .returned (.tuple #[v, .int .u32 (k : Int), .int .i64 0]) ∧ WOut s n room off B L w B' L' w' c v hs ∧ hs.length = m ∧ DenL n L' hs F ∧ Den n L' k G

theorem WOut.from {B1 : List Nat} {L1 : List Bdd.Nd} {w1 : World} {B' : List Nat} {L' : List Bdd.Nd} {c c1 c2 : Nat} {v : Value} {hs : List Nat} (e : Evo s n room off B L w B1 L1 w1 c1) (h : WOut s n room off B1 L1 w1 B' L' w' c2 v hs) (hc : c1 + c2 ≤ c) : WOut s n room off B L w B' L' w' c v hs :=
  ⟨(e.trans h.evo).mono hc, h.row, fun k hk => ⟨by have := e.fr.size; have := (h.own k hk).1; omega, (h.own k hk).2⟩⟩

set_option maxHeartbeats 1000000 in
set_option maxRecDepth 4000 in
theorem chained_adder {m : Nat} {av bv : Value} {xs zs : List Nat} {F G : Nat → Fn} (h : Sto w s B n room off L) (hA : HsAt w av xs) (hX : HsAt w bv zs) (oA : ∀ k, av.ownBlock = some k → k ∉ B) (oX : ∀ k, bv.ownBlock = some k → k ∉ B)
    (la : xs.length = m) (lb : zs.length = m) (m1 : 1 ≤ m) (m8 : m ≤ 8) (dA : DenL n L xs F) (dX : DenL n L zs G) (hr : Bdd.high L + 217 * m + 256 < room ∨ n ≤ 3 ∧ 256 < room) :
    Calls Tryz.prog 89 #[.pointer (some ⟨s, 0, none⟩), av, bv, fnV 90] w (AddPost s n room off B L w m (217 * m) (sumF addC F G) (cry addC F G m)) := by
  obtain ⟨aa, acap, rfl⟩ : ∃ aa acap, av = .slice aa m acap := by obtain ⟨aa, acap, e, _⟩ := hA.shape; exact ⟨aa, acap, by rw [e, la]⟩
  obtain ⟨ba, bcap, rfl⟩ : ∃ aa acap, bv = .slice aa m acap := by obtain ⟨aa, acap, e, _⟩ := hX.shape; exact ⟨aa, acap, by rw [e, lb]⟩
  have R := Lib.hid (refuses_two h hA hX la lb m1 m8 dA dX)
  have F2 : Fr [] w ((w.alloc (.cells #[.slice aa m acap, .slice ba m bcap] 24)).alloc (.cells #[.pointer (some ⟨s, 0, none⟩), .int .i64 0] 145)) := ((Fr.refl [] w).alloc _).alloc _
  have hsz : (w.alloc (.cells #[.slice aa m acap, .slice ba m bcap] 24)).heap.size = w.heap.size + 1 := World.size_alloc _ _
  have hG : GAt ((w.alloc (.cells #[.slice aa m acap, .slice ba m bcap] 24)).alloc (.cells #[.pointer (some ⟨s, 0, none⟩), .int .i64 0] 145)) (w.heap.size + 1) s B n room off L :=
    ⟨by rw [← hsz]; exact Blk.new _ _ _, h.fr F2 (by simp), fun hb => by have := h.mem.2 _ hb; omega⟩
  have CH := Lib.hid (chain_adder hG (hA.fr F2 (by simp)) (hX.fr F2 (by simp)) oA oX la lb (by omega) dA dX hr)
  have HG := Lib.hid hG
  have HE := Lib.hid (hG.sto.evo F2 (by simp))
  clear hG F2 hA hX dA dX hr oA oX h
  go_enter Tryz.func89, Tryz.ntmps89
  go_wp2_with fail
  refine R.out.mono ?_
  rintro e w1 ⟨rfl, rfl⟩
  go_wp2_with fail
  refine CH.out.mono ?_
  rintro e w2 ⟨v, hs, k, B', L', rfl, hW, hl, hD, hK⟩
  have hg := HG.out.evo hW.evo
  have c1 := hg.blk.cell 1 (v := .int .i64 0) rfl
  have hfin : AddPost s n room off B L w m (217 * m) (sumF addC F G) (cry addC F G m) (.returned (.tuple #[v, .int .u32 (k : Int), .int .i64 0])) w2 :=
    ⟨v, hs, k, B', L', rfl, WOut.from HE.out hW (by omega), hl, hD, hK⟩
  have HF := Lib.hid hfin
  clear hfin hW hD hK hg hl
  go_wp2
  refine bodyPost_ret (results_tmp3 rfl _ _ _) rfl ?_
  exact HF.out

theorem add_word {m : Nat} {av bv : Value} {xs zs : List Nat} {F G : Nat → Fn} (h : Sto w s B n room off L) (hA : HsAt w av xs) (hX : HsAt w bv zs) (oA : ∀ k, av.ownBlock = some k → k ∉ B) (oX : ∀ k, bv.ownBlock = some k → k ∉ B)
    (la : xs.length = m) (lb : zs.length = m) (m1 : 1 ≤ m) (m8 : m ≤ 8) (dA : DenL n L xs F) (dX : DenL n L zs G) (hr : Bdd.high L + 217 * m + 256 < room ∨ n ≤ 3 ∧ 256 < room) :
    Calls Tryz.prog 26 #[.pointer (some ⟨s, 0, none⟩), av, bv] w (AddPost s n room off B L w m (217 * m) (sumF addC F G) (cry addC F G m)) := by
  have CH := Lib.hid (chained_adder h hA hX oA oX la lb m1 m8 dA dX hr)
  clear h hA hX oA oX dA dX hr
  go_enter Tryz.func26, Tryz.ntmps26
  go_wp2_with fail
  refine CH.out.mono ?_
  rintro e w2 ⟨v, hs, k, B', L', rfl, hr⟩
  go_wp2
  refine bodyPost_ret (results_tmp3 rfl _ _ _) rfl ?_
  exact ⟨v, hs, k, B', L', rfl, hr⟩

set_option maxHeartbeats 1000000 in
set_option maxRecDepth 4000 in
theorem chained_taker {m : Nat} {av bv : Value} {xs zs : List Nat} {F G : Nat → Fn} (h : Sto w s B n room off L) (hA : HsAt w av xs) (hX : HsAt w bv zs) (oA : ∀ k, av.ownBlock = some k → k ∉ B) (oX : ∀ k, bv.ownBlock = some k → k ∉ B)
    (la : xs.length = m) (lb : zs.length = m) (m1 : 1 ≤ m) (m8 : m ≤ 8) (dA : DenL n L xs F) (dX : DenL n L zs G) (hr : Bdd.high L + 217 * m + 256 < room ∨ n ≤ 3 ∧ 256 < room) :
    Calls Tryz.prog 89 #[.pointer (some ⟨s, 0, none⟩), av, bv, fnV 91] w (AddPost s n room off B L w m (217 * m) (sumF subC F G) (cry subC F G m)) := by
  obtain ⟨aa, acap, rfl⟩ : ∃ aa acap, av = .slice aa m acap := by obtain ⟨aa, acap, e, _⟩ := hA.shape; exact ⟨aa, acap, by rw [e, la]⟩
  obtain ⟨ba, bcap, rfl⟩ : ∃ aa acap, bv = .slice aa m acap := by obtain ⟨aa, acap, e, _⟩ := hX.shape; exact ⟨aa, acap, by rw [e, lb]⟩
  have R := Lib.hid (refuses_two h hA hX la lb m1 m8 dA dX)
  have F2 : Fr [] w ((w.alloc (.cells #[.slice aa m acap, .slice ba m bcap] 24)).alloc (.cells #[.pointer (some ⟨s, 0, none⟩), .int .i64 0] 145)) := ((Fr.refl [] w).alloc _).alloc _
  have hsz : (w.alloc (.cells #[.slice aa m acap, .slice ba m bcap] 24)).heap.size = w.heap.size + 1 := World.size_alloc _ _
  have hG : GAt ((w.alloc (.cells #[.slice aa m acap, .slice ba m bcap] 24)).alloc (.cells #[.pointer (some ⟨s, 0, none⟩), .int .i64 0] 145)) (w.heap.size + 1) s B n room off L :=
    ⟨by rw [← hsz]; exact Blk.new _ _ _, h.fr F2 (by simp), fun hb => by have := h.mem.2 _ hb; omega⟩
  have CH := Lib.hid (chain_taker hG (hA.fr F2 (by simp)) (hX.fr F2 (by simp)) oA oX la lb (by omega) dA dX hr)
  have HG := Lib.hid hG
  have HE := Lib.hid (hG.sto.evo F2 (by simp))
  clear hG F2 hA hX dA dX hr oA oX h
  go_enter Tryz.func89, Tryz.ntmps89
  go_wp2_with fail
  refine R.out.mono ?_
  rintro e w1 ⟨rfl, rfl⟩
  go_wp2_with fail
  refine CH.out.mono ?_
  rintro e w2 ⟨v, hs, k, B', L', rfl, hW, hl, hD, hK⟩
  have hg := HG.out.evo hW.evo
  have c1 := hg.blk.cell 1 (v := .int .i64 0) rfl
  have hfin : AddPost s n room off B L w m (217 * m) (sumF subC F G) (cry subC F G m) (.returned (.tuple #[v, .int .u32 (k : Int), .int .i64 0])) w2 :=
    ⟨v, hs, k, B', L', rfl, WOut.from HE.out hW (by omega), hl, hD, hK⟩
  have HF := Lib.hid hfin
  clear hfin hW hD hK hg hl
  go_wp2
  refine bodyPost_ret (results_tmp3 rfl _ _ _) rfl ?_
  exact HF.out

theorem sub_word {m : Nat} {av bv : Value} {xs zs : List Nat} {F G : Nat → Fn} (h : Sto w s B n room off L) (hA : HsAt w av xs) (hX : HsAt w bv zs) (oA : ∀ k, av.ownBlock = some k → k ∉ B) (oX : ∀ k, bv.ownBlock = some k → k ∉ B)
    (la : xs.length = m) (lb : zs.length = m) (m1 : 1 ≤ m) (m8 : m ≤ 8) (dA : DenL n L xs F) (dX : DenL n L zs G) (hr : Bdd.high L + 217 * m + 256 < room ∨ n ≤ 3 ∧ 256 < room) :
    Calls Tryz.prog 27 #[.pointer (some ⟨s, 0, none⟩), av, bv] w (AddPost s n room off B L w m (217 * m) (sumF subC F G) (cry subC F G m)) := by
  have CH := Lib.hid (chained_taker h hA hX oA oX la lb m1 m8 dA dX hr)
  clear h hA hX oA oX dA dX hr
  go_enter Tryz.func27, Tryz.ntmps27
  go_wp2_with fail
  refine CH.out.mono ?_
  rintro e w2 ⟨v, hs, k, B', L', rfl, hr⟩
  go_wp2
  refine bodyPost_ret (results_tmp3 rfl _ _ _) rfl ?_
  exact ⟨v, hs, k, B', L', rfl, hr⟩

theorem less_word {m : Nat} {av bv : Value} {xs zs : List Nat} {F G : Nat → Fn} (h : Sto w s B n room off L) (hA : HsAt w av xs) (hX : HsAt w bv zs) (oA : ∀ k, av.ownBlock = some k → k ∉ B) (oX : ∀ k, bv.ownBlock = some k → k ∉ B)
    (la : xs.length = m) (lb : zs.length = m) (m1 : 1 ≤ m) (m8 : m ≤ 8) (dA : DenL n L xs F) (dX : DenL n L zs G) (hr : Bdd.high L + 217 * m + 256 < room ∨ n ≤ 3 ∧ 256 < room) :
    Calls Tryz.prog 33 #[.pointer (some ⟨s, 0, none⟩), av, bv] w fun e w' => ∃ (k : Nat) (B' : List Nat) (L' : List Bdd.Nd), e = .returned (.tuple #[.int .u32 (k : Int), .int .i64 0]) ∧ Evo s n room off B L w B' L' w' (217 * m) ∧ Den n L' k (cry subC F G m) := by
  have CH := Lib.hid (sub_word h hA hX oA oX la lb m1 m8 dA dX hr)
  clear h hA hX oA oX dA dX hr
  go_enter Tryz.func33, Tryz.ntmps33
  go_wp2_with fail
  refine CH.out.mono ?_
  rintro e w2 ⟨v, hs, k, B', L', rfl, hW, hl, hD, hK⟩
  go_wp2
  go_ret2
  exact ⟨k, B', L', rfl, hW.evo, hK⟩

end
end Go.Proofs.YtiojnjihbidbiaaGreat
/- word, walked: a node's value at an assignment; a word's. -/
namespace Go.Proofs.YtiojnjihbidbiaaGreat
open Go.RowKit
attribute [local go_sem ↓] Go.wp_at_zero Go.wp_at_succ
set_option linter.unusedVariables false

/-- The assignment that a number is. -/
def xbit (x v : Nat) : Bool := decide (x / 2 ^ v % 2 = 1)

section
variable {w w' : World} {s n room : Nat} {off : Bool} {B : List Nat} {L : List Bdd.Nd}

theorem value_any (h : Sto w s B n room off L) {a x : Nat} {F : Fn} (da : Den n L a F) (hx : x < 256) :
    Calls Tryz.prog 157 #[.pointer (some ⟨s, 0, none⟩), .int .u32 (a : Int), .int .u8 (x : Int)] w fun e w' => e = .returned (.int .u8 ((F (xbit x)).toNat : Nat)) ∧ Fr [] w w' := by
  have hn := h.vars.2
  have hw := h.wf
  rw [← da.2]
  have ha := da.1
  clear da
  go_enter Tryz.func157, Tryz.ntmps157
  go_wp2_with fail
  refine (sto_order h).mono ?_
  rintro e w1 ⟨b', rfl, hB, hF, hlt⟩
  have h1 := h.fr hF (by simp)
  have H1 := Lib.hid h1
  have HF := Lib.hid hF
  clear h1 hF h
  go_wp2_with fail
  go_loopg [1] (n - Bdd.lev n (Bdd.tab L) a) (fun kk hv wr => ∃ k : Nat, kk = n - Bdd.lev n (Bdd.tab L) k ∧ hv = .int .u32 (k : Int) ∧ w1 = wr ∧ Bdd.IsNd (Bdd.tab L) k ∧ Bdd.D n (Bdd.tab L) k (xbit x) = Bdd.D n (Bdd.tab L) a (xbit x))
  case atStart => exact ⟨a, rfl, rfl, rfl, ha, rfl⟩
  case round =>
    obtain ⟨k, hk, rfl, rfl, hkn, hD⟩ := hrel
    have hklt := H1.out.nd_lt hkn
    by_cases h2 : k < 2
    · have hres : ((Bdd.D n (Bdd.tab L) a (xbit x)).toNat : Int) = (k : Int) := by
        rw [← hD]
        have : k = 0 ∨ k = 1 := by omega
        rcases this with rfl | rfl
        · rw [Bdd.D_zero]; rfl
        · rw [Bdd.D_one]; rfl
      have hmod : (k : Int) % 256 = k := by omega
      have hfin : Ending.returned (.int .u8 (k : Int)) = .returned (.int .u8 ((Bdd.D n (Bdd.tab L) a (xbit x)).toNat : Nat)) := by rw [hres]
      have HFIN := Lib.hid hfin
      clear hD hres hfin
      go_wp2
      go_ret
      exact ⟨HFIN.out, HF.out⟩
    · obtain ⟨d, hd⟩ := hkn.node (by omega)
      have hlv := Bdd.lev_node (n := n) (by omega : 2 ≤ k) hd
      have hdn := hw.lv hd
      have hbit := bit_u8 x d.lv hx
      have hDn := Bdd.D_node hw hd (xbit x)
      by_cases hb : x / 2 ^ d.lv % 2 = 1
      · rw [hb] at hbit
        have hx1 : xbit x d.lv = true := by simp [xbit, hb]
        rw [hx1, if_pos rfl] at hDn
        have hnx : Bdd.D n (Bdd.tab L) d.hi (xbit x) = Bdd.D n (Bdd.tab L) a (xbit x) := by rw [← hDn]; exact hD
        have hms : n - Bdd.lev n (Bdd.tab L) d.hi < n - Bdd.lev n (Bdd.tab L) k := by rw [hlv]; have := hw.lhi hd; omega
        have ih := hw.hi hd
        have HX := Lib.hid hnx
        have HM := Lib.hid hms
        have HD := Lib.hid hd
        clear hD hDn hnx hx1 hb hms hd
        rw [← hk] at HM
        go_wp2_with fail
        refine (sto_level H1.out hkn).mono ?_
        rw [hlv]
        rintro e w' ⟨rfl, rfl⟩
        go_wp2_with fail
        refine (ovar_any b' n d.lv _ hB hdn hn).mono ?_
        rintro e w' ⟨rfl, rfl⟩
        go_wp2_with fail
        refine (sto_high H1.out HD.out).mono ?_
        rintro e w' ⟨rfl, rfl⟩
        go_wp2
        go_roundg (n - Bdd.lev n (Bdd.tab L) d.hi)
        case measure => exact HM.out
        case rel => exact ⟨d.hi, rfl, rfl, rfl, ih, HX.out⟩
      · have hb0 : x / 2 ^ d.lv % 2 = 0 := by omega
        rw [hb0] at hbit
        have hx1 : xbit x d.lv = false := by simp [xbit, hb0]
        rw [hx1, if_neg (by simp)] at hDn
        have hnx : Bdd.D n (Bdd.tab L) d.lo (xbit x) = Bdd.D n (Bdd.tab L) a (xbit x) := by rw [← hDn]; exact hD
        have hms : n - Bdd.lev n (Bdd.tab L) d.lo < n - Bdd.lev n (Bdd.tab L) k := by rw [hlv]; have := hw.llo hd; omega
        have ih := hw.lo hd
        have HX := Lib.hid hnx
        have HM := Lib.hid hms
        have HD := Lib.hid hd
        clear hD hDn hnx hx1 hb hb0 hms hd
        rw [← hk] at HM
        go_wp2_with fail
        refine (sto_level H1.out hkn).mono ?_
        rw [hlv]
        rintro e w' ⟨rfl, rfl⟩
        go_wp2_with fail
        refine (ovar_any b' n d.lv _ hB hdn hn).mono ?_
        rintro e w' ⟨rfl, rfl⟩
        go_wp2_with fail
        refine (sto_low H1.out HD.out).mono ?_
        rintro e w' ⟨rfl, rfl⟩
        go_wp2
        go_roundg (n - Bdd.lev n (Bdd.tab L) d.lo)
        case measure => exact HM.out
        case rel => exact ⟨d.lo, rfl, rfl, rfl, ih, HX.out⟩

/-- A word's number at an assignment. -/
def numOf (F : Nat → Fn) (y : Nat → Bool) : Nat → Nat
  | 0 => 0
  | j + 1 => numOf F y j + (F j y).toNat * 2 ^ j
theorem numOf_lt (F : Nat → Fn) (y : Nat → Bool) : ∀ j, numOf F y j < 2 ^ j
  | 0 => by simp [numOf]
  | j + 1 => by
    have := numOf_lt F y j
    have h2 : (F j y).toNat ≤ 1 := Bool.toNat_le _
    have : (F j y).toNat * 2 ^ j ≤ 1 * 2 ^ j := Nat.mul_le_mul_right _ h2
    rw [numOf, Nat.pow_succ]
    omega

theorem one_row {v1 : Value} {a1 : List Nat} (h1 : HsAt w v1 a1) : RowsAt (w.alloc (.cells #[v1] 24)) (.slice (some ⟨w.heap.size, 0, none⟩) 1 1) [(v1, a1)] := by
  refine ⟨row_lit (Blk.new w #[v1] 24) (by unfold maxLen; simp), fun i p hp => ?_⟩
  have F : Fr [] w (w.alloc (.cells #[v1] 24)) := (Fr.refl [] w).alloc _
  match i, hp with
  | 0, hp => obtain rfl := Option.some.inj hp; exact h1.fr F (by simp)
  | i + 1, hp => simp at hp

theorem refuses_one (h : Sto w s B n room off L) {v1 : Value} {a1 : List Nat} {F : Nat → Fn} {m : Nat} (h1 : HsAt w v1 a1) (l1 : a1.length = m) (m1 : 1 ≤ m) (m8 : m ≤ 8) (d1 : DenL n L a1 F) :
    Calls Tryz.prog 98 #[.pointer (some ⟨s, 0, none⟩), .slice (some ⟨w.heap.size, 0, none⟩) 1 1] (w.alloc (.cells #[v1] 24)) fun e w' => e = .returned (.int .i64 0) ∧ w.alloc (.cells #[v1] 24) = w' := by
  have hlen := h.len
  refine (refuses_any (h.fr ((Fr.refl [] w).alloc _) (by simp)) (one_row h1) (by simp) (fun i p j x hp hx => ?_) (fun i p hp => ?_)).mono ?_
  · match i, hp with
    | 0, hp => obtain rfl := Option.some.inj hp; have := d1.nd hx; omega
    | i + 1, hp => simp at hp
  · match i, hp with
    | 0, hp => obtain rfl := Option.some.inj hp; show a1.length < _; omega
    | i + 1, hp => simp at hp
  · rintro e w' ⟨e1, hr⟩
    refine ⟨?_, e1⟩
    rcases hr with ⟨_, i, p, q, hp, hq, hb⟩ | ⟨_, _, i, p, j, x, hp, hx, hb⟩ | ⟨e, _⟩
    · exfalso
      have hq' : q = (v1, a1) := by simpa using hq.symm
      subst hq'
      match i, hp with
      | 0, hp => obtain rfl := Option.some.inj hp; replace hb : a1.length < 1 ∨ 8 < a1.length ∨ a1.length ≠ a1.length := hb; omega
      | i + 1, hp => simp at hp
    · exfalso
      match i, hp with
      | 0, hp => obtain rfl := Option.some.inj hp; have := d1.nd hx; omega
      | i + 1, hp => simp at hp
    · exact e

theorem or_u8 (i q y : Nat) (hq : y + q * 2 ^ i < 256) (hy : y < 2 ^ i) : bits BinOp.or IntKind.u8 (y : Int) ((q * 2 ^ i : Nat) : Int) = ((y + q * 2 ^ i : Nat) : Int) := by
  rw [u8_or_nat _ _ (by omega) (by omega), Nat.mul_comm q, Nat.or_comm, ← Nat.two_pow_add_eq_or_of_lt hy, Nat.add_comm]

set_option maxHeartbeats 1000000 in
set_option maxRecDepth 4000 in
theorem eval_any (h : Sto w s B n room off L) {m x : Nat} {av : Value} {xs : List Nat} {F : Nat → Fn} (hA : HsAt w av xs) (oA : ∀ k, av.ownBlock = some k → k ∉ B) (la : xs.length = m) (m1 : 1 ≤ m) (m8 : m ≤ 8) (dA : DenL n L xs F) (hx : x < 256) :
    Calls Tryz.prog 88 #[.pointer (some ⟨s, 0, none⟩), av, .int .u8 (x : Int)] w fun e w' => e = .returned (.tuple #[.int .u8 (numOf F (xbit x) m : Nat), .int .i64 0]) ∧ Fr [] w w' := by
  obtain ⟨aa, acap, rfl⟩ : ∃ aa acap, av = .slice aa m acap := by obtain ⟨aa, acap, e, _⟩ := hA.shape; exact ⟨aa, acap, by rw [e, la]⟩
  have R := Lib.hid (refuses_one h hA la m1 m8 dA)
  have F1 : Fr [] w (w.alloc (.cells #[.slice aa m acap] 24)) := (Fr.refl [] w).alloc _
  have HF1 := Lib.hid F1
  have HS := Lib.hid (h.fr F1 (by simp))
  have HA := Lib.hid (hA.fr F1 (by simp))
  have HD := Lib.hid dA
  clear h hA dA F1
  go_enter Tryz.func88, Tryz.ntmps88
  go_wp2_with fail
  refine R.out.mono ?_
  rintro e w1 ⟨rfl, rfl⟩
  go_wp2_with fail
  generalize w.alloc (.cells #[.slice aa m acap] 24) = w1 at *
  go_loopg [9, 21] m (fun kk v i wr => ∃ j : Nat, j ≤ m ∧ kk = m - j ∧ i = .int .i64 (j : Int) ∧ v = .int .u8 (numOf F (xbit x) j : Nat) ∧ Fr [] w1 wr)
  case atStart => exact ⟨0, by omega, by omega, rfl, rfl, Fr.refl _ _⟩
  case round =>
    obtain ⟨j, hj, hk, rfl, rfl, hF⟩ := hrel
    by_cases hlt : j < m
    · obtain ⟨z, hz⟩ : ∃ z, xs[j]? = some z := ⟨xs[j], List.getElem?_eq_getElem (by omega)⟩
      obtain ⟨ga, acap', e, ca⟩ := (HA.out.fr hF (by simp)).get hz
      injection e with e1 e3 e4
      subst e1 e4
      have dz := HD.out j z hz
      have hS := HS.out.fr hF (by simp)
      have hb : (F j (xbit x)).toNat ≤ 1 := Bool.toNat_le _
      have hnl := numOf_lt F (xbit x) j
      have hnl2 := numOf_lt F (xbit x) (j + 1)
      have hpw : 2 ^ (j + 1) ≤ 2 ^ 8 := Nat.pow_le_pow_right (by omega) (by omega)
      rw [numOf] at hnl2
      have hor := or_u8 j (F j (xbit x)).toNat (numOf F (xbit x) j) (by omega) hnl
      have hmul : ((F j (xbit x)).toNat : Int) * 2 ^ j % 256 = (((F j (xbit x)).toNat * 2 ^ j : Nat) : Int) := by
        rw [show ((F j (xbit x)).toNat : Int) * 2 ^ j = (((F j (xbit x)).toNat * 2 ^ j : Nat) : Int) by simp]
        omega
      have hval : bits BinOp.or IntKind.u8 (numOf F (xbit x) j : Int) (((F j (xbit x)).toNat : Int) * 2 ^ j % 256) = (numOf F (xbit x) (j + 1) : Nat) := by rw [hmul, hor]; rfl
      have HVAL := Lib.hid hval
      clear hmul hval hor hnl hnl2 hpw hb
      have HDZ := Lib.hid dz
      have HSS := Lib.hid hS
      have HFF := Lib.hid hF
      clear hz e3 dz hS hF
      go_wp2_with fail
      refine (value_any HSS.out HDZ.out hx).mono ?_
      rintro e w2 ⟨rfl, hF2⟩
      have HF2 := Lib.hid (HFF.out.then hF2)
      clear hF2
      go_wp2_with fail
      go_roundg (m - (j + 1))
      case measure => omega
      case rel => exact ⟨j + 1, by omega, rfl, by go_num, by rw [HVAL.out], HF2.out⟩
    · have e : j = m := by omega
      subst e
      have HFF := Lib.hid (HF1.out.then hF)
      clear hF
      go_wp2
      go_ret2
      exact ⟨rfl, HFF.out⟩
end
end Go.Proofs.YtiojnjihbidbiaaGreat
/- word: a store and words in a law's own session. -/
namespace Go.Proofs.YtiojnjihbidbiaaGreat
open Go.RowKit
attribute [local go_sem ↓] Go.wp_at_zero Go.wp_at_succ
set_option linter.unusedVariables false

/-- A store of one's own: nothing that was there before w has been touched. -/
structure Ses (w w1 : World) (s : Nat) (B : List Nat) (n room : Nat) (off : Bool) (L : List Bdd.Nd) : Prop where
  sto : Sto w1 s B n room off L
  fr : Fr [] w w1
  new : ∀ k ∈ B, w.heap.size ≤ k

/-- A word beside the store. -/
structure WAt (w1 : World) (B : List Nat) (v : Value) (hs : List Nat) : Prop where
  row : HsAt w1 v hs
  own : ∀ k, v.ownBlock = some k → k ∉ B

section
variable {w w1 w2 : World} {s n room c : Nat} {off : Bool} {B B' : List Nat} {L L' : List Bdd.Nd} {v : Value} {hs : List Nat}

theorem Ses.evo (h : Ses w w1 s B n room off L) (e : Evo s n room off B L w1 B' L' w2 c) : Ses w w2 s B' n room off L' :=
  ⟨e.sto, h.fr.trans e.fr (fun x hx => .inr (h.new x hx)), fun k hk => by
    rcases e.own k hk with h1 | h1
    · exact h.new k h1
    · have := h.fr.size; omega⟩
theorem Ses.then (h : Ses w w1 s B n room off L) (f : Fr [] w1 w2) : Ses w w2 s B n room off L := ⟨h.sto.fr f (by simp), h.fr.then f, h.new⟩
theorem WAt.evo (h : WAt w1 B v hs) (e : Evo s n room off B L w1 B' L' w2 c) : WAt w2 B' v hs :=
  ⟨h.row.fr e.fr h.own, fun k hk hb => by
    rcases e.own k hb with h1 | h1
    · exact h.own k hk h1
    · have := h.row.lt hk; omega⟩
theorem WAt.then (h : WAt w1 B v hs) (f : Fr [] w1 w2) : WAt w2 B v hs := ⟨h.row.fr f (by simp), h.own⟩
theorem WOut.at (h : WOut s n room off B L w1 B' L' w2 c v hs) : WAt w2 B' v hs := ⟨h.row, fun k hk => (h.own k hk).2⟩
theorem OutRel.at (h : OutRel hs w1 v w2) (hB : ∀ k ∈ B, k < w1.heap.size) : WAt w2 B v hs := ⟨h.1, fun k hk hb => by have := hB k hb; have := h.2.2 k hk; omega⟩

/-- The bits of a number. -/
def conF (x : Nat) (i : Nat) : Fn := fun _ => decide (x / 2 ^ i % 2 = 1)
theorem den_const (x k : Nat) : DenL n L (constL x k) (conF x) := fun i h hh => by
  unfold constL at hh
  rw [List.getElem?_map] at hh
  rcases Nat.lt_or_ge i k with hi | hi
  · rw [List.getElem?_range hi] at hh
    obtain rfl : x / 2 ^ i % 2 = h := Option.some.inj hh
    have : x / 2 ^ i % 2 = 0 ∨ x / 2 ^ i % 2 = 1 := by omega
    unfold conF
    rcases this with e | e
    · rw [e]; exact Den.zero
    · rw [e]; exact Den.one
  · rw [List.getElem?_eq_none (by simp; omega)] at hh
    cases hh

/-- Two words that tell the same functions have the same handles. -/
theorem DenL.eq {hs ks : List Nat} {F G : Nat → Fn} {m : Nat} (d : DenL n L hs F) (e : DenL n L ks G) (hw : Bdd.Wf n (Bdd.tab L)) (l1 : hs.length = m) (l2 : ks.length = m) (hf : ∀ i, i < m → ∀ y, F i y = G i y) : hs = ks := by
  apply List.ext_getElem (by omega)
  intro i h1 h2
  exact (d i _ (List.getElem?_eq_getElem h1)).eq (e i _ (List.getElem?_eq_getElem h2)) hw (hf i (by omega))

/-- A variable that isn't there. -/
theorem vars_bad (h : Sto w s B n room off L) {a : Nat} (ha : n ≤ a) (ha2 : a < 1000) (hI : IntsAt w v [a]) :
    Calls Tryz.prog 87 #[.pointer (some ⟨s, 0, none⟩), v] w fun e w' => e = .returned (.tuple #[.slice none 0 0, .int .i64 40]) ∧ w = w' := by
  obtain ⟨g, cap, rfl, cg⟩ := intsAt_get hI (i := 0) (x := a) rfl
  go_enter Tryz.func87, Tryz.ntmps87
  go_wp2_with fail
  refine (long_any 1 _ (by omega) (by omega)).mono ?_
  rintro e w' ⟨rfl, rfl⟩
  go_wp2_with fail
  refine wp_loop_rounds 2 ?_
  rw [rounds_succ]
  go_wp2_with fail
  refine (sto_vars h).mono ?_
  rintro e w' ⟨rfl, rfl⟩
  go_wp2
  go_ret2
  exact ⟨rfl, rfl⟩

/-- Words of unlike lengths aren't multiplied. -/
theorem mul_nil (h : Sto w s B n room off L) {m : Nat} {xs : List Nat} {F : Nat → Fn} (hA : HsAt w v xs) (la : xs.length = m) (m1 : 1 ≤ m) (m8 : m ≤ 8) (dA : DenL n L xs F) :
    Calls Tryz.prog 32 #[.pointer (some ⟨s, 0, none⟩), v, .slice none 0 0] w fun e w' => e = .returned (.tuple #[.slice none 0 0, .int .i64 40]) ∧ Fr [] w w' := by
  obtain ⟨aa, acap, rfl⟩ : ∃ aa acap, v = .slice aa m acap := by obtain ⟨aa, acap, e, _⟩ := hA.shape; exact ⟨aa, acap, by rw [e, la]⟩
  have hlen := h.len
  have F1 : Fr [] w (w.alloc (.cells #[.slice aa m acap, .slice none 0 0] 24)) := (Fr.refl [] w).alloc _
  have HF := Lib.hid F1
  have R := Lib.hid (refuses_any (h.fr F1 (by simp)) (two_rows hA (HsAt.nil w)) (by simp) (fun i p j x hp hx => by
      match i, hp with
      | 0, hp => obtain rfl := Option.some.inj hp; have := dA.nd hx; omega
      | 1, hp => obtain rfl := Option.some.inj hp; simp at hx
      | i + 2, hp => simp at hp) (fun i p hp => by
      match i, hp with
      | 0, hp => obtain rfl := Option.some.inj hp; show xs.length < _; omega
      | 1, hp => obtain rfl := Option.some.inj hp; show 0 < 1000000; omega
      | i + 2, hp => simp at hp))
  have hbad : badLen [((.slice aa m acap : Value), xs), ((.slice none 0 0 : Value), ([] : List Nat))] := ⟨1, _, _, rfl, rfl, .inl (by show 0 < 1; omega)⟩
  have HB := Lib.hid hbad
  clear hbad hA dA F1
  go_enter Tryz.func32, Tryz.ntmps32
  go_wp2_with fail
  refine R.out.mono ?_
  rintro e w2 ⟨rfl, hr⟩
  rcases hr with ⟨rfl, _⟩ | ⟨_, hr, _⟩ | ⟨_, hr, _⟩
  · go_wp2
    go_ret2
    exact ⟨rfl, HF.out⟩
  · exact absurd HB.out hr
  · exact absurd HB.out hr
end
end Go.Proofs.YtiojnjihbidbiaaGreat
