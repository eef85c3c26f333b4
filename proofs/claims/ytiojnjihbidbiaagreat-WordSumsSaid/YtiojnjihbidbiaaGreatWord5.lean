/- word, walked: chains. -/
import Derived.Test.YtiojnjihbidbiaaGreatWord4
namespace Go.Proofs.YtiojnjihbidbiaaGreat
open Go.RowKit
attribute [local go_sem ↓] Go.wp_at_zero Go.wp_at_succ
set_option linter.unusedVariables false

abbrev Fn := (Nat → Bool) → Bool

/-- What is carried into bit j. -/
def cry (bc : Bool → Bool → Bool → Bool) (F G : Nat → Fn) : Nat → Fn
  | 0 => fun _ => false
  | j + 1 => fun y => bc (F j y) (G j y) (cry bc F G j y)
/-- Bit j of the sum. -/
def sumF (bc : Bool → Bool → Bool → Bool) (F G : Nat → Fn) (j : Nat) : Fn := fun y => (F j y ^^ G j y) ^^ cry bc F G j y
def addC (a b c : Bool) : Bool := (a && b) || (c && (a || b))
def subC (a b c : Bool) : Bool := (!a && b) || (c && (!a || b))

section
variable {w w' : World} {s n room : Nat} {off : Bool} {B : List Nat} {L : List Bdd.Nd}

theorem GAt.fr {O : List Nat} {g : Nat} (h : GAt w g s B n room off L) (f : Fr O w w') (hO : ∀ k ∈ B, k ∉ O) (hg : g ∉ O) : GAt w' g s B n room off L := ⟨h.blk.fr f hg, h.sto.fr f hO, h.apart⟩

/-- What a chain answers. -/
def ChainPost (s n room : Nat) (off : Bool) (B : List Nat) (L : List Bdd.Nd) (w : World) (m c : Nat) (F : Nat → Fn) (G : Fn) (e : Ending) (w' : World) : Prop :=
  ∃ (v : Value) (hs : List Nat) (k : Nat) (B' : List Nat) (L' : List Bdd.Nd), e = .returned (.tuple #[v, .int .u32 (k : Int)]) ∧ WOut s n room off B L w B' L' w' c v hs ∧ hs.length = m ∧ DenL n L' hs F ∧ Den n L' k G

/-- Before bit j. -/
def ChainRel (s n room : Nat) (off : Bool) (B : List Nat) (L : List Bdd.Nd) (w : World) (bc : Bool → Bool → Bool → Bool) (F G : Nat → Fn) (j : Nat) (v cv : Value) (wr : World) : Prop :=
  ∃ (hs : List Nat) (k : Nat) (B' : List Nat) (L' : List Bdd.Nd), cv = .int .u32 (k : Int) ∧ hs.length = j ∧ WOut s n room off B L w B' L' wr (217 * j) v hs ∧ DenL n L' hs (sumF bc F G) ∧ Den n L' k (cry bc F G j)

set_option maxHeartbeats 2000000 in
set_option maxRecDepth 4000 in
theorem chain_adder {g m : Nat} {av bv : Value} {xs zs : List Nat} {F G : Nat → Fn} (h : GAt w g s B n room off L) (hA : HsAt w av xs) (hX : HsAt w bv zs) (oA : ∀ k, av.ownBlock = some k → k ∉ B) (oX : ∀ k, bv.ownBlock = some k → k ∉ B)
    (la : xs.length = m) (lb : zs.length = m) (hm : m < 1000) (dA : DenL n L xs F) (dX : DenL n L zs G) (hr : Bdd.high L + 217 * m + 256 < room) :
    Calls Tryz.prog 100 #[.pointer (some ⟨g, 0, none⟩), av, bv, fnV 90] w (ChainPost s n room off B L w m (217 * m) (sumF addC F G) (cry addC F G m)) := by
  obtain ⟨i0, hi, hz0, hz1, hz2⟩ := info_parts Tryz.info_handle
  obtain ⟨aa, acap, rfl⟩ : ∃ aa acap, av = .slice aa m acap := by obtain ⟨aa, acap, e, _⟩ := hA.shape; exact ⟨aa, acap, by rw [e, la]⟩
  obtain ⟨ba, bcap, rfl⟩ : ∃ aa acap, bv = .slice aa m acap := by obtain ⟨aa, acap, e, _⟩ := hX.shape; exact ⟨aa, acap, by rw [e, lb]⟩
  have HR := Lib.hid hr
  have HOA := Lib.hid oA
  have HOX := Lib.hid oX
  have HDA := Lib.hid dA
  have HDX := Lib.hid dX
  have HG := Lib.hid h
  have HA := Lib.hid hA
  have HX := Lib.hid hX
  clear hr oA oX dA dX h hA hX
  go_enter Tryz.func100, Tryz.ntmps100
  go_wp2_with fail
  go_loopg [10, 11, 16] m (fun kk v cv i wr => ∃ j : Nat, j ≤ m ∧ kk = m - j ∧ i = .int .i64 (j : Int) ∧ ChainRel s n room off B L w addC F G j v cv wr)
  case atStart => exact ⟨0, by omega, by omega, rfl, [], 0, B, L, rfl, rfl, WOut.start HG.out.sto, DenL.nil _ _ _, Den.zero⟩
  case round =>
    obtain ⟨j, hj, hk, rfl, hs, k, B', L', rfl, hl, hW, hD, hC⟩ := hrel
    by_cases hlt : j < m
    · obtain ⟨x, hx⟩ : ∃ x, xs[j]? = some x := ⟨xs[j], List.getElem?_eq_getElem (by omega)⟩
      obtain ⟨z, hz⟩ : ∃ z, zs[j]? = some z := ⟨zs[j], List.getElem?_eq_getElem (by omega)⟩
      have F0 : Fr [] wr wr.drew := (Fr.refl [] wr).drew
      have hGr := HG.out.evo hW.evo
      have hGd := hGr.fr F0 (by simp) (by simp)
      have eD : Evo s n room off B' L' wr B' L' wr.drew 0 := hGd.sto.evo F0 (by simp)
      have hAr := HA.out.fr hW.evo.fr HOA.out
      have hXr := HX.out.fr hW.evo.fr HOX.out
      obtain ⟨ga, acap', e, ca⟩ := hAr.get hx
      injection e with e1 e3 e4
      subst e1 e4
      obtain ⟨gb, bcap', e2, cb⟩ := hXr.get hz
      injection e2 with e1 e5 e4
      subst e1 e4
      have hga : ga ∉ B' := fun hb => by
        rcases hW.evo.own ga hb with h1 | h1
        · exact HOA.out ga rfl h1
        · have := HA.out.lt (k := ga) rfl; omega
      have hgb : gb ∉ B' := fun hb => by
        rcases hW.evo.own gb hb with h1 | h1
        · exact HOX.out gb rfl h1
        · have := HX.out.lt (k := gb) rfl; omega
      have d1 := (HDA.out j x hx).more HG.out.sto.wf hW.evo.gr
      have d2 := (HDX.out j z hz).more HG.out.sto.wf hW.evo.gr
      have hhi := hW.evo.gr.hi
      have hroom : Bdd.high L' + 217 + 256 < room := by have := HR.out; omega
      have HW := Lib.hid hW
      have HD := Lib.hid hD
      have HC := Lib.hid hC
      have HGD := Lib.hid hGd
      have HED := Lib.hid eD
      have HD1 := Lib.hid d1
      have HD2 := Lib.hid d2
      clear e3 e5 hx hz hW hD hC hGd hGr eD hAr hXr d1 d2 hhi F0
      go_wp2_with fail
      go_region_held3 (fun w' => w'.cell? ⟨ga, j, none⟩ = some (.int .u32 (x : Int)) ∧ w'.cell? ⟨gb, j, none⟩ = some (.int .u32 (z : Int))) (go_keep)
        ((go_at_call 90; refine (gadder_any (by exact HGD.out) HD1.out HD2.out HC.out hroom).mono ?_; rintro e w1 ⟨h1, k1, B1, L1, rfl, hev, e1, e2⟩; have k0 := hev.fr.cell (by exact ca) hga; have k1' := hev.fr.cell (by exact cb) hgb))
      have hev2 := HED.out.trans hev
      have hW1 := HW.out.step hev2
      have hD1 := (HD.out.more HW.out.evo.gr.wf hev.gr).push hl (F := sumF addC F G) e1
      have hC1 : Den n L1 k1 (cry addC F G (j + 1)) := e2
      have HW1 := Lib.hid hW1
      have HD1' := Lib.hid hD1
      have HC1 := Lib.hid hC1
      clear hev2 hW1 hD1 hC1 hev e1 e2
      go_wp2_with (at_builtin; go_loud (refine wpList_append_lies _ rfl _ _ _ rfl 0 28 i0 (.int .u32 0) 1 4 Tryz.underlying24 hi hz0 hz1 hz2 rfl (by omega) u10 hs.length _ rfl (HW1.out.row.alloc _) ⟨w1.heap.size, 0, none⟩ 1 1 [.int .u32 (h1 : Int)] rfl rfl ?hnews ?h1 (by omega) ?h63 (by omega) (Nat.zero_le _) (w1.heap.size + 1) (by simp) ?_))
      case hnews =>
        intro i u hi
        have : i = 0 := by simpa using (List.getElem?_eq_some_iff.1 hi).1
        subst this
        simp only [List.getElem?_cons_zero, Option.some.injEq] at hi
        subst hi
        exact (Blk.new w1 #[.int .u32 (h1 : Int)] 28).cell 0 rfl
      case h1 =>
        intro u hu
        simp only [List.mem_singleton] at hu
        subst hu; rfl
      case h63 => unfold maxLen; omega
      · intro g' cap' w3 hown3 hgrow hat hglt
        have hW3 := HW1.out.push hl hown3 hgrow hat
        have hrel : ChainRel s n room off B L w addC F G (j + 1) (.slice (some ⟨g', 0, none⟩) (j + 1) cap') (.int .u32 (k1 : Int)) w3 :=
          ⟨_, k1, B1, L1, rfl, by simp [hl], ⟨hW3.evo.mono (by omega), hW3.row, hW3.own⟩, HD1'.out, HC1.out⟩
        have HREL := Lib.hid hrel
        clear hW3 hrel hown3 hgrow hat
        go_wp2
        go_roundg (m - (j + 1))
        case measure => omega
        case rel => exact ⟨j + 1, by omega, rfl, by go_num, HREL.out⟩
    · have e : j = m := by omega
      have hfin : ChainPost s n room off B L w m (217 * m) (sumF addC F G) (cry addC F G m) (.returned (.tuple #[u10, .int .u32 (k : Int)])) wr := by
        rw [← e]
        exact ⟨_, hs, k, B', L', rfl, hW, hl, hD, hC⟩
      have HF := Lib.hid hfin
      clear hfin hW hD hC
      go_wp2
      go_ret2
      exact HF.out

set_option maxHeartbeats 2000000 in
set_option maxRecDepth 4000 in
theorem chain_taker {g m : Nat} {av bv : Value} {xs zs : List Nat} {F G : Nat → Fn} (h : GAt w g s B n room off L) (hA : HsAt w av xs) (hX : HsAt w bv zs) (oA : ∀ k, av.ownBlock = some k → k ∉ B) (oX : ∀ k, bv.ownBlock = some k → k ∉ B)
    (la : xs.length = m) (lb : zs.length = m) (hm : m < 1000) (dA : DenL n L xs F) (dX : DenL n L zs G) (hr : Bdd.high L + 217 * m + 256 < room) :
    Calls Tryz.prog 100 #[.pointer (some ⟨g, 0, none⟩), av, bv, fnV 91] w (ChainPost s n room off B L w m (217 * m) (sumF subC F G) (cry subC F G m)) := by
  obtain ⟨i0, hi, hz0, hz1, hz2⟩ := info_parts Tryz.info_handle
  obtain ⟨aa, acap, rfl⟩ : ∃ aa acap, av = .slice aa m acap := by obtain ⟨aa, acap, e, _⟩ := hA.shape; exact ⟨aa, acap, by rw [e, la]⟩
  obtain ⟨ba, bcap, rfl⟩ : ∃ aa acap, bv = .slice aa m acap := by obtain ⟨aa, acap, e, _⟩ := hX.shape; exact ⟨aa, acap, by rw [e, lb]⟩
  have HR := Lib.hid hr
  have HOA := Lib.hid oA
  have HOX := Lib.hid oX
  have HDA := Lib.hid dA
  have HDX := Lib.hid dX
  have HG := Lib.hid h
  have HA := Lib.hid hA
  have HX := Lib.hid hX
  clear hr oA oX dA dX h hA hX
  go_enter Tryz.func100, Tryz.ntmps100
  go_wp2_with fail
  go_loopg [10, 11, 16] m (fun kk v cv i wr => ∃ j : Nat, j ≤ m ∧ kk = m - j ∧ i = .int .i64 (j : Int) ∧ ChainRel s n room off B L w subC F G j v cv wr)
  case atStart => exact ⟨0, by omega, by omega, rfl, [], 0, B, L, rfl, rfl, WOut.start HG.out.sto, DenL.nil _ _ _, Den.zero⟩
  case round =>
    obtain ⟨j, hj, hk, rfl, hs, k, B', L', rfl, hl, hW, hD, hC⟩ := hrel
    by_cases hlt : j < m
    · obtain ⟨x, hx⟩ : ∃ x, xs[j]? = some x := ⟨xs[j], List.getElem?_eq_getElem (by omega)⟩
      obtain ⟨z, hz⟩ : ∃ z, zs[j]? = some z := ⟨zs[j], List.getElem?_eq_getElem (by omega)⟩
      have F0 : Fr [] wr wr.drew := (Fr.refl [] wr).drew
      have hGr := HG.out.evo hW.evo
      have hGd := hGr.fr F0 (by simp) (by simp)
      have eD : Evo s n room off B' L' wr B' L' wr.drew 0 := hGd.sto.evo F0 (by simp)
      have hAr := HA.out.fr hW.evo.fr HOA.out
      have hXr := HX.out.fr hW.evo.fr HOX.out
      obtain ⟨ga, acap', e, ca⟩ := hAr.get hx
      injection e with e1 e3 e4
      subst e1 e4
      obtain ⟨gb, bcap', e2, cb⟩ := hXr.get hz
      injection e2 with e1 e5 e4
      subst e1 e4
      have hga : ga ∉ B' := fun hb => by
        rcases hW.evo.own ga hb with h1 | h1
        · exact HOA.out ga rfl h1
        · have := HA.out.lt (k := ga) rfl; omega
      have hgb : gb ∉ B' := fun hb => by
        rcases hW.evo.own gb hb with h1 | h1
        · exact HOX.out gb rfl h1
        · have := HX.out.lt (k := gb) rfl; omega
      have d1 := (HDA.out j x hx).more HG.out.sto.wf hW.evo.gr
      have d2 := (HDX.out j z hz).more HG.out.sto.wf hW.evo.gr
      have hhi := hW.evo.gr.hi
      have hroom : Bdd.high L' + 217 + 256 < room := by have := HR.out; omega
      have HW := Lib.hid hW
      have HD := Lib.hid hD
      have HC := Lib.hid hC
      have HGD := Lib.hid hGd
      have HED := Lib.hid eD
      have HD1 := Lib.hid d1
      have HD2 := Lib.hid d2
      clear e3 e5 hx hz hW hD hC hGd hGr eD hAr hXr d1 d2 hhi F0
      go_wp2_with fail
      go_region_held3 (fun w' => w'.cell? ⟨ga, j, none⟩ = some (.int .u32 (x : Int)) ∧ w'.cell? ⟨gb, j, none⟩ = some (.int .u32 (z : Int))) (go_keep)
        ((go_at_call 91; refine (gtaker_any (by exact HGD.out) HD1.out HD2.out HC.out hroom).mono ?_; rintro e w1 ⟨h1, k1, B1, L1, rfl, hev, e1, e2⟩; have k0 := hev.fr.cell (by exact ca) hga; have k1' := hev.fr.cell (by exact cb) hgb))
      have hev2 := HED.out.trans hev
      have hW1 := HW.out.step hev2
      have hD1 := (HD.out.more HW.out.evo.gr.wf hev.gr).push hl (F := sumF subC F G) e1
      have hC1 : Den n L1 k1 (cry subC F G (j + 1)) := e2
      have HW1 := Lib.hid hW1
      have HD1' := Lib.hid hD1
      have HC1 := Lib.hid hC1
      clear hev2 hW1 hD1 hC1 hev e1 e2
      go_wp2_with (at_builtin; go_loud (refine wpList_append_lies _ rfl _ _ _ rfl 0 28 i0 (.int .u32 0) 1 4 Tryz.underlying24 hi hz0 hz1 hz2 rfl (by omega) u10 hs.length _ rfl (HW1.out.row.alloc _) ⟨w1.heap.size, 0, none⟩ 1 1 [.int .u32 (h1 : Int)] rfl rfl ?hnews ?h1 (by omega) ?h63 (by omega) (Nat.zero_le _) (w1.heap.size + 1) (by simp) ?_))
      case hnews =>
        intro i u hi
        have : i = 0 := by simpa using (List.getElem?_eq_some_iff.1 hi).1
        subst this
        simp only [List.getElem?_cons_zero, Option.some.injEq] at hi
        subst hi
        exact (Blk.new w1 #[.int .u32 (h1 : Int)] 28).cell 0 rfl
      case h1 =>
        intro u hu
        simp only [List.mem_singleton] at hu
        subst hu; rfl
      case h63 => unfold maxLen; omega
      · intro g' cap' w3 hown3 hgrow hat hglt
        have hW3 := HW1.out.push hl hown3 hgrow hat
        have hrel : ChainRel s n room off B L w subC F G (j + 1) (.slice (some ⟨g', 0, none⟩) (j + 1) cap') (.int .u32 (k1 : Int)) w3 :=
          ⟨_, k1, B1, L1, rfl, by simp [hl], ⟨hW3.evo.mono (by omega), hW3.row, hW3.own⟩, HD1'.out, HC1.out⟩
        have HREL := Lib.hid hrel
        clear hW3 hrel hown3 hgrow hat
        go_wp2
        go_roundg (m - (j + 1))
        case measure => omega
        case rel => exact ⟨j + 1, by omega, rfl, by go_num, HREL.out⟩
    · have e : j = m := by omega
      have hfin : ChainPost s n room off B L w m (217 * m) (sumF subC F G) (cry subC F G m) (.returned (.tuple #[u10, .int .u32 (k : Int)])) wr := by
        rw [← e]
        exact ⟨_, hs, k, B', L', rfl, hW, hl, hD, hC⟩
      have HF := Lib.hid hfin
      clear hfin hW hD hC
      go_wp2
      go_ret2
      exact HF.out

end
end Go.Proofs.YtiojnjihbidbiaaGreat
