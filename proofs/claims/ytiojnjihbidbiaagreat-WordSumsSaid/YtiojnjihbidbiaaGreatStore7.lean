/- A store's table made anew with all its nodes, walked: 'grows'. -/
import Derived.Test.YtiojnjihbidbiaaGreatStore6
namespace Go.Proofs.YtiojnjihbidbiaaGreat
open Go.RowKit
attribute [local go_sem ↓] Go.wp_at_zero Go.wp_at_succ
set_option linter.unusedVariables false

theorem run_lookup_set {w : World} {b : Nat} (h : MapAt w b .u32 (fun _ => none)) (x : Int) :
    (Instr.lookup 187 (.map (some b)) (.int .u32 x) true).run Tryz.prog w = .ok (.tuple #[.agg #[], .bool false]) w := by
  have := run_lookup_ok (P := Tryz.prog) Tryz.underlying187 (by kernel_rfl) h (z := .agg #[]) (by kernel_rfl) x
  rw [this]; rfl

/-- Between two rounds of 'grows': the first m nodes are in the new table. -/
def GrowRel (s : Nat) (cs : Array Value) (nv : Value) (L : List Bdd.Nd) (S tab tm tc slo out : Nat) (w0 : World) (m : Nat) (wr : World) : Prop :=
  ∃ K sl, K.length = S ∧ Blk wr s cs 134 ∧ NodesAt wr nv L ∧ TableAt wr tab tm tc K ∧ MapAt wr slo .i64 (slf sl) ∧ MapAt wr out .u32 (fun _ => none) ∧ Bdd.TabInv (homeF K.length) K sl L m ∧ Fr [s] w0 wr

set_option maxHeartbeats 2000000 in
theorem grows_any (s S : Nat) (v0 v1 nv v3 v4 v5 v6 v7 : Value) (n : Nat) (L : List Bdd.Nd) (w : World) (h : Blk w s #[v0, v1, nv, v3, v4, v5, v6, v7] 134) (hN : NodesAt w nv L) (hs : ∀ k, nv.ownBlock = some k → s ≠ k)
    (hS : 1 ≤ S) (hS2 : S ≤ 262144) (hLS : L.length < S) (hL : L.length ≤ 32768) (hw : Bdd.Wf n (Bdd.tab L)) (hn : n ≤ 8) :
    Calls Tryz.prog 96 #[.pointer (some ⟨s, 0, none⟩), .int .i64 (S : Int), .slice none 0 0] w fun e w' => e = .returned (.tuple #[]) ∧ ∃ tab tm tc slo K sl,
      K.length = S ∧ Blk w' s #[v0, v1, nv, v3, .pointer (some ⟨tab, 0, none⟩), .map (some slo), v6, v7] 134 ∧ NodesAt w' nv L ∧ TableAt w' tab tm tc K ∧ MapAt w' slo .i64 (slf sl) ∧ Bdd.TabInv (homeF S) K sl L L.length ∧ Fr [s] w w' ∧
      w.heap.size ≤ tab ∧ w.heap.size ≤ tm ∧ w.heap.size ≤ tc ∧ w.heap.size ≤ slo ∧ [tab, tm, tc, slo].Nodup := by
  obtain ⟨a, cap, hnv, hcap⟩ := hN.shape
  subst hnv
  have hnlt : ∀ k, (Value.slice a L.length cap).ownBlock = some k → k < w.heap.size := fun k hk => (hN.lt k hk).2
  have hmm := @run_makeMap Tryz.prog
  have hslt := h.lt
  go_enter Tryz.func96, Tryz.ntmps96
  go_wp2_with fail
  refine (mnew_any S _ hS2).mono ?_
  rintro e w1 ⟨tm, tc, rfl, hM1, hF1, htm, htc⟩
  go_wp2_with fail
  refine (utnew_any tm tc S _ _ hM1 (by simp) hS hS2).mono ?_
  rintro e w2 ⟨tab, rfl, hT2, hF2, htab⟩
  have F12 := hF1.trans hF2 (by simp)
  have h2 := h.fr F12 (by simp)
  have c4 := h2.cell 4 (v := v4) rfl
  have f4 := h2.free 4
  have h3 := h2.set 4 (.pointer (some ⟨tab, 0, none⟩))
  have h4 := h3.alloc (.map #[] 0)
  have c5 := h4.cell 5 (v := v5) rfl
  have f5 := h4.free 5
  have h5 := h4.set 5 (.map (some w2.heap.size))
  have h6 := h5.alloc (.map #[] 0)
  have c2 := h6.cell 2 (v := .slice a L.length cap) rfl
  go_wp2_with fail
  refine wp_loop_rounds 1 ?_
  rw [rounds_succ]
  go_wp2_with fail
  have hw2 := F12.size
  have FW : Fr [s] w ((((w2.setCell ⟨s, 4, none⟩ (.pointer (some ⟨tab, 0, none⟩))).alloc (.map #[] 0)).setCell ⟨s, 5, none⟩ (.map (some w2.heap.size))).alloc (.map #[] 0)) :=
    ((((F12.of [s]).setCell _ (.inl (by simp))).alloc _).setCell _ (.inl (by simp))).alloc _
  have FW2 : Fr [s] w2 ((((w2.setCell ⟨s, 4, none⟩ (.pointer (some ⟨tab, 0, none⟩))).alloc (.map #[] 0)).setCell ⟨s, 5, none⟩ (.map (some w2.heap.size))).alloc (.map #[] 0)) :=
    ((((Fr.refl [s] w2).setCell _ (.inl (by simp))).alloc _).setCell _ (.inl (by simp))).alloc _
  have hltT := hT2.lt
  have hlo : tm < w1.heap.size ∧ tc < w1.heap.size := hM1.lt
  have hmc : tm ≠ tc := by obtain ⟨_, _, _, _, e⟩ := hM1; exact e
  have hrel0 : GrowRel s #[v0, v1, .slice a L.length cap, v3, .pointer (some ⟨tab, 0, none⟩), .map (some w2.heap.size), v6, v7] (.slice a L.length cap) L S tab tm tc w2.heap.size (w2.heap.size + 1) w 0
      ((((w2.setCell ⟨s, 4, none⟩ (.pointer (some ⟨tab, 0, none⟩))).alloc (.map #[] 0)).setCell ⟨s, 5, none⟩ (.map (some w2.heap.size))).alloc (.map #[] 0)) := by
    refine ⟨List.replicate S 0, fun _ => none, by simp, h6, ?_, ?_, ?_, ?_, ?_, FW⟩
    · refine (hN.fr F12 (by simp)).fr FW2 (fun k hk => ?_)
      have := hs k hk
      simp; omega
    · exact hT2.fr FW2 (by simp; omega) (by simp; omega) (by simp; omega)
    · have m1 := MapAt.new (w2.setCell ⟨s, 4, none⟩ (.pointer (some ⟨tab, 0, none⟩))) .i64
      have e : slf (fun _ => none) = fun _ => none := by funext x; unfold slf; split <;> rfl
      rw [e]
      have FF : Fr [s] ((w2.setCell ⟨s, 4, none⟩ (.pointer (some ⟨tab, 0, none⟩))).alloc (.map #[] 0)) ((((w2.setCell ⟨s, 4, none⟩ (.pointer (some ⟨tab, 0, none⟩))).alloc (.map #[] 0)).setCell ⟨s, 5, none⟩ (.map (some w2.heap.size))).alloc (.map #[] 0)) :=
        ((Fr.refl [s] _).setCell _ (.inl (by simp))).alloc _
      have hsz : (w2.setCell ⟨s, 4, none⟩ (.pointer (some ⟨tab, 0, none⟩))).heap.size = w2.heap.size := by simp [World.setCell]
      rw [hsz] at m1
      exact m1.fr FF (by simp; omega)
    · have m1 := MapAt.new (((w2.setCell ⟨s, 4, none⟩ (.pointer (some ⟨tab, 0, none⟩))).alloc (.map #[] 0)).setCell ⟨s, 5, none⟩ (.map (some w2.heap.size))) .u32
      have hsz : (((w2.setCell ⟨s, 4, none⟩ (.pointer (some ⟨tab, 0, none⟩))).alloc (.map #[] 0)).setCell ⟨s, 5, none⟩ (.map (some w2.heap.size))).heap.size = w2.heap.size + 1 := by simp [World.setCell]
      rw [hsz] at m1
      exact m1
    · rw [List.length_replicate]; exact Bdd.TabInv.empty _ _ _ _ (fun k => homeF_lt (by omega) k)
  have hkeys : ∀ (i : Nat) (x : Bdd.Nd), L[i]? = some x → Bdd.keyN x ≠ 0 := fun i x hx => keyN_ne (hw.ne (h := i + 2) (by rw [Bdd.tab_two]; exact hx))
  have hsm : ∀ (i : Nat) (x : Bdd.Nd), L[i]? = some x → x.lv < 256 ∧ x.lo < 65540 ∧ x.hi < 65540 := fun i x hx => by
    have hx' : Bdd.tab L (i + 2) = some x := by rw [Bdd.tab_two]; exact hx
    have h1 := hw.lv hx'
    have h2 := Bdd.isNd_tab.1 (hw.lo hx')
    have h3 := Bdd.isNd_tab.1 (hw.hi hx')
    omega
  have hnw : ∀ (i m : Nat) (x d : Bdd.Nd), i < m → L[i]? = some x → L[m]? = some d → Bdd.keyN x ≠ Bdd.keyN d := fun i m x d him hx hd e => by
    have a1 := hsm i x hx
    have a2 := hsm m d hd
    have := Bdd.keyN_inj (by omega) (by omega) (by omega) (by omega) e
    subst this
    have := hw.uniq (h := i + 2) (k := m + 2) (by rw [Bdd.tab_two]; exact hx) (by rw [Bdd.tab_two]; exact hd)
    omega
  have HK := Lib.hid hkeys
  have HS := Lib.hid hsm
  have HN := Lib.hid hnw
  clear hkeys hsm hnw hw h h2 h3 h4 h5 h6 c4 f4 c5 f5 c2 FW FW2 hM1 hT2 hF1 F12 hN
  have hp1 : tab ≠ tm ∧ tab ≠ tc ∧ s ≠ tab ∧ s ≠ tm ∧ s ≠ tc := by omega
  have hp2 : s ≠ w2.heap.size ∧ w2.heap.size ≠ tm ∧ w2.heap.size ≠ tc ∧ w2.heap.size ≠ tab ∧ w.heap.size ≤ w2.heap.size ∧ w.heap.size ≤ tab := by omega
  go_loopg [44] L.length (fun k i wr => ∃ m : Nat, m ≤ L.length ∧ k = L.length - m ∧ i = .int .i64 (m : Int) ∧ GrowRel s #[v0, v1, .slice a L.length cap, v3, .pointer (some ⟨tab, 0, none⟩), .map (some w2.heap.size), v6, v7] (.slice a L.length cap) L S tab tm tc w2.heap.size (w2.heap.size + 1) w m wr)
  case atStart => exact ⟨0, by omega, by omega, rfl, hrel0⟩
  case round =>
    obtain ⟨m, hm, hgk, rfl, Kt, slt, hKt, hB, hNr, hTr, hMr, hOr, hIr, hFr⟩ := hrel
    by_cases hlt : m < L.length
    · have hd : L[m]? = some L[m] := List.getElem?_eq_getElem hlt
      obtain ⟨g, cap', hv, hc', k0, k1, k2, k3⟩ := hNr.node hd
      obtain ⟨rfl, rfl⟩ : a = some ⟨g, 0, none⟩ ∧ cap = cap' := by simpa using hv
      obtain ⟨d, hdd⟩ : ∃ d, d = L[m] := ⟨_, rfl⟩
      rw [← hdd] at hd k1 k2 k3
      clear hv hdd
      have hsd := HS.out m d hd
      have HD := Lib.hid hd
      have HKt := Lib.hid hKt
      clear hd hKt
      have hgs : g ≠ s := fun e => hs g rfl e.symm
      have hglt := hnlt g rfl
      have F1 : Fr [] wr (wr.alloc (.cells #[.bool true, .int .i64 (d.lv : Int), .int .u32 (d.lo : Int), .int .u32 (d.hi : Int)] 220)) := (Fr.refl _ _).alloc _
      have hlk := run_lookup_set (hOr.fr F1 (by simp)) ((m : Int) + 2)
      have F2 := F1.alloc (.cells #[] 210)
      have hB2 := hB.fr F2 (by simp)
      have c4 := hB2.cell 4 (v := .pointer (some ⟨tab, 0, none⟩)) rfl
      have c5 := hB2.cell 5 (v := .map (some w2.heap.size)) rfl
      have hltr := hTr.lt
      have hlts := hMr.lt
      have hlto := hOr.lt
      go_wp2_with fail
      refine (lays_any s tab tm tc w2.heap.size m Kt slt L d _ c4 c5 (hTr.fr F2 (by simp) (by simp) (by simp)) (hMr.fr F2 (by simp)) hIr HD.out HK.out (fun i x hi hx => HN.out i m x d hi hx HD.out) (by rw [HKt.out]; omega) hsd.1 hsd.2.1 hsd.2.2 (by omega) (by omega)).mono ?_
      rintro e w3 ⟨rfl, Kt', slt', hK', hT3, hM3, hI3, hF3⟩
      have F3 : Fr [tm, tc, w2.heap.size] wr w3 := (F2.of _).then hF3
      have hnxt : GrowRel s #[v0, v1, .slice (some ⟨g, 0, none⟩) L.length cap, v3, .pointer (some ⟨tab, 0, none⟩), .map (some w2.heap.size), v6, v7] (.slice (some ⟨g, 0, none⟩) L.length cap) L S tab tm tc w2.heap.size (w2.heap.size + 1) w (m + 1) w3 :=
        ⟨Kt', slt', hK'.trans HKt.out, hB.fr F3 (by simp; omega), hNr.fr F3 (fun k hk => by simp only [Value.ownBlock, Option.some.injEq] at hk; subst hk; simp; omega), hT3, hM3, hOr.fr F3 (by simp; omega), hI3, hFr.trans F3 (by simp; omega)⟩
      go_wp2
      go_roundg (L.length - (m + 1))
      case measure => omega
      case rel => exact ⟨m + 1, by omega, rfl, by go_num, hnxt⟩
    · have : m = L.length := by omega
      subst this
      have hfin : ∃ tab tm tc slo K sl, K.length = S ∧ Blk wr s #[v0, v1, .slice a L.length cap, v3, .pointer (some ⟨tab, 0, none⟩), .map (some slo), v6, v7] 134 ∧ NodesAt wr (.slice a L.length cap) L ∧ TableAt wr tab tm tc K ∧ MapAt wr slo .i64 (slf sl) ∧ Bdd.TabInv (homeF S) K sl L L.length ∧ Fr [s] w wr ∧
          w.heap.size ≤ tab ∧ w.heap.size ≤ tm ∧ w.heap.size ≤ tc ∧ w.heap.size ≤ slo ∧ [tab, tm, tc, slo].Nodup := by
        refine ⟨tab, tm, tc, w2.heap.size, Kt, slt, hKt, hB, hNr, hTr, hMr, by rw [← hKt]; exact hIr, hFr, by omega, htm, htc, by omega, ?_⟩
        simp; omega
      clear hB hNr hTr hMr hOr hIr hFr hKt
      go_wp2
      go_end0
      exact ⟨rfl, hfin⟩

end Go.Proofs.YtiojnjihbidbiaaGreat
