/- spinneyplay.Func, walked: a node's table. -/
import Derived.Test.YtiojnjihbidbiaaGreatPlay1
import Derived.Test.YtiojnjihbidbiaaGreatBaseF
namespace Go.Proofs.YtiojnjihbidbiaaGreat
open Go.RowKit
attribute [local go_sem ↓] Go.wp_at_zero Go.wp_at_succ
set_option linter.unusedVariables false

theorem flat4_get {α : Type} (f : α → List Value) (hf : ∀ a, (f a).length = 4) : ∀ (l : List α) (i : Nat) (a : α) (j : Nat), l[i]? = some a → j < 4 → (l.flatMap f)[i * 4 + j]? = (f a)[j]?
  | [], i, a, j, h, _ => by simp at h
  | c :: l, 0, a, j, h, hj => by
    simp at h; subst h
    rw [List.flatMap_cons, List.getElem?_append_left (by rw [hf]; omega)]; simp
  | c :: l, i + 1, a, j, h, hj => by
    have ih := flat4_get f hf l i a j (by simpa using h) hj
    rw [List.flatMap_cons, List.getElem?_append_right (by rw [hf]; omega), hf, ← ih]
    congr 1; omega
theorem flat4_len {α : Type} (f : α → List Value) (hf : ∀ a, (f a).length = 4) : ∀ (l : List α), (l.flatMap f).length = l.length * 4
  | [] => rfl
  | c :: l => by rw [List.flatMap_cons, List.length_append, hf, flat4_len f hf l, List.length_cons]; omega

/-- A slice of tables. -/
def TabsAt (w : World) (v : Value) (Fs : List Fun) : Prop := w.ownsRow 0 49 4 v Fs.length (Fs.flatMap fun F => (tcells F).toList)
theorem TabsAt.nil (w : World) : TabsAt w (.slice none 0 0) [] := ⟨rfl, .inl ⟨rfl, rfl⟩⟩
theorem TabsAt.fr {w w' : World} {v : Value} {Fs : List Fun} (h : TabsAt w v Fs) (f : Fr [] w w') : TabsAt w' v Fs := row_fr h f (by simp)
theorem TabsAt.get {w : World} {v : Value} {Fs : List Fun} (h : TabsAt w v Fs) {i : Nat} {F : Fun} (hF : Fs[i]? = some F) :
    ∃ g cap, v = .slice (some ⟨g, 0, none⟩) Fs.length cap ∧ Fs.length ≤ cap ∧ w.cell? ⟨g, i * 4, none⟩ = some (.int .u64 (wd F 0 : Nat)) ∧ w.cell? ⟨g, i * 4 + 1, none⟩ = some (.int .u64 (wd F 1 : Nat)) ∧
      w.cell? ⟨g, i * 4 + 2, none⟩ = some (.int .u64 (wd F 2 : Nat)) ∧ w.cell? ⟨g, i * 4 + 3, none⟩ = some (.int .u64 (wd F 3 : Nat)) := by
  have hi := (List.getElem?_eq_some_iff.1 hF).1
  have gt : ∀ j, j < 4 → (Fs.flatMap fun F => (tcells F).toList)[i * 4 + j]? = (tcells F).toList[j]? := fun j hj => flat4_get (fun F => (tcells F).toList) (fun _ => rfl) Fs i F j hF hj
  obtain ⟨hx, h⟩ := h
  rcases h with ⟨_, h0⟩ | ⟨g, cap, cur, rfl, _, hg, hc, hm, hs, ht⟩
  · omega
  · have cell : ∀ j u, (Fs.flatMap fun F => (tcells F).toList)[j]? = some u → w.cell? ⟨g, j, none⟩ = some u := fun j u hj => by
      simp only [World.cell?, hg]
      rw [← ht] at hj
      rw [List.getElem?_take] at hj
      split at hj
      · simpa using hj
      · cases hj
    exact ⟨g, cap, rfl, hc, cell _ _ (gt 0 (by omega)), cell _ _ (gt 1 (by omega)), cell _ _ (gt 2 (by omega)), cell _ _ (gt 3 (by omega))⟩

/-- A table and a flag as results. -/
theorem results_table2 {fn : Func} {p u : Tmp} (h : fn.results = #[.cell p 49, .tmp u]) {tmps : Array Value} {w : World} {r : Nat} (hp : tmps.getD p undef = .pointer (some ⟨r, 0, none⟩)) {x : Value} (hu : tmps.getD u undef = x) {F : Fun} (hB : Blk w r (tcells F) 49) :
    (results fn tmps).run Tryz.prog w = .ok (.tuple #[tv F, x]) w := by
  have c0 := hB.cell 0 (v := .int .u64 (wd F 0 : Nat)) rfl
  have c1 := hB.cell 1 (v := .int .u64 (wd F 1 : Nat)) rfl
  have c2 := hB.cell 2 (v := .int .u64 (wd F 2 : Nat)) rfl
  have c3 := hB.cell 3 (v := .int .u64 (wd F 3 : Nat)) rfl
  clear hB
  rw [results_cell_tmp h, hp, hu]
  simp [go_sem, c0, c1, c2, c3]

structure Ten (V F1 F0 : Fun) (g lv b13 b11 r : Nat) (w' : World) : Prop where
  v : w'.cell? ⟨g, lv * 4, none⟩ = some (.int .u64 (wd V 0 : Nat)) ∧ w'.cell? ⟨g, lv * 4 + 1, none⟩ = some (.int .u64 (wd V 1 : Nat)) ∧ w'.cell? ⟨g, lv * 4 + 2, none⟩ = some (.int .u64 (wd V 2 : Nat)) ∧ w'.cell? ⟨g, lv * 4 + 3, none⟩ = some (.int .u64 (wd V 3 : Nat))
  f1 : Blk w' b13 (tcells F1) 49
  f0 : Blk w' b11 (tcells F0) 49
  r : Blk w' r #[.int .u64 0, .int .u64 0, .int .u64 0, .int .u64 0] 49
theorem Ten.fr {V F1 F0 : Fun} {g lv b13 b11 r : Nat} {w w' : World} (h : Ten V F1 F0 g lv b13 b11 r w) (f : Fr [] w w') : Ten V F1 F0 g lv b13 b11 r w' :=
  ⟨⟨f.cell h.v.1 (by simp), f.cell h.v.2.1 (by simp), f.cell h.v.2.2.1 (by simp), f.cell h.v.2.2.2 (by simp)⟩, h.f1.fr f (by simp), h.f0.fr f (by simp), h.r.fr f (by simp)⟩
theorem Ten.all {V F1 F0 : Fun} {g lv b13 b11 r : Nat} {w' : World} (h : Ten V F1 F0 g lv b13 b11 r w') : w'.cell? ⟨g, lv * 4, none⟩ = some (.int .u64 (wd V 0 : Nat)) ∧ w'.cell? ⟨g, lv * 4 + 1, none⟩ = some (.int .u64 (wd V 1 : Nat)) ∧ w'.cell? ⟨g, lv * 4 + 2, none⟩ = some (.int .u64 (wd V 2 : Nat)) ∧ w'.cell? ⟨g, lv * 4 + 3, none⟩ = some (.int .u64 (wd V 3 : Nat)) ∧ w'.cell? ⟨b13, 0, none⟩ = some (.int .u64 (wd F1 0 : Nat)) ∧ w'.cell? ⟨b13, 1, none⟩ = some (.int .u64 (wd F1 1 : Nat)) ∧ w'.cell? ⟨b13, 2, none⟩ = some (.int .u64 (wd F1 2 : Nat)) ∧ w'.cell? ⟨b13, 3, none⟩ = some (.int .u64 (wd F1 3 : Nat)) ∧ w'.cell? ⟨b11, 0, none⟩ = some (.int .u64 (wd F0 0 : Nat)) ∧ w'.cell? ⟨b11, 1, none⟩ = some (.int .u64 (wd F0 1 : Nat)) ∧ w'.cell? ⟨b11, 2, none⟩ = some (.int .u64 (wd F0 2 : Nat)) ∧ w'.cell? ⟨b11, 3, none⟩ = some (.int .u64 (wd F0 3 : Nat)) ∧ w'.cell? ⟨r, 0, none⟩ = some (.int .u64 0) ∧ w'.frozen? ⟨r, 0, none⟩ = false ∧ w'.cell? ⟨r, 1, none⟩ = some (.int .u64 0) ∧ w'.frozen? ⟨r, 1, none⟩ = false ∧ w'.cell? ⟨r, 2, none⟩ = some (.int .u64 0) ∧ w'.frozen? ⟨r, 2, none⟩ = false ∧ w'.cell? ⟨r, 3, none⟩ = some (.int .u64 0) ∧ w'.frozen? ⟨r, 3, none⟩ = false :=
  ⟨h.v.1, h.v.2.1, h.v.2.2.1, h.v.2.2.2, h.f1.cell 0 rfl, h.f1.cell 1 rfl, h.f1.cell 2 rfl, h.f1.cell 3 rfl, h.f0.cell 0 rfl, h.f0.cell 1 rfl, h.f0.cell 2 rfl, h.f0.cell 3 rfl,
    h.r.cell 0 rfl, h.r.free 0, h.r.cell 1 rfl, h.r.free 1, h.r.cell 2 rfl, h.r.free 2, h.r.cell 3 rfl, h.r.free 3⟩

def idF (v : Nat) : Fun := fun y => y v
def varsL (n : Nat) : List Fun := (List.range n).map idF
theorem varsL_len (n : Nat) : (varsL n).length = n := by simp [varsL]
theorem varsL_get {n i : Nat} (h : i < n) : (varsL n)[i]? = some (idF i) := by unfold varsL; rw [List.getElem?_map, List.getElem?_range h]; rfl

section
variable {w w' : World} {s n room : Nat} {off : Bool} {B : List Nat} {L : List Bdd.Nd}

set_option maxHeartbeats 2000000 in
set_option maxRecDepth 8000 in
theorem pwalk_step (h : Sto w s B n room off L) {k deep : Nat} {vv : Value} (hk : Bdd.IsNd (Bdd.tab L) k) (hV : TabsAt w vv (varsL n)) (hd : deep ≤ Bdd.lev n (Bdd.tab L) k)
    (ih : ∀ (w1 : World) (c d : Nat), Fr [] w w1 → Bdd.IsNd (Bdd.tab L) c → Bdd.lev n (Bdd.tab L) k < Bdd.lev n (Bdd.tab L) c → d < Bdd.lev n (Bdd.tab L) c →
      Calls Tryz.prog 142 #[.pointer (some ⟨s, 0, none⟩), .int .u32 (c : Int), vv, .int .i64 ((d : Int) + 1)] w1 fun e w' => e = .returned (.tuple #[tv (Bdd.D n (Bdd.tab L) c), .bool true]) ∧ Fr [] w1 w') :
    Calls Tryz.prog 142 #[.pointer (some ⟨s, 0, none⟩), .int .u32 (k : Int), vv, .int .i64 (deep : Int)] w fun e w' => e = .returned (.tuple #[tv (Bdd.D n (Bdd.tab L) k), .bool true]) ∧ Fr [] w w' := by
  have hz : tcells (fun _ => false) = #[.int .u64 0, .int .u64 0, .int .u64 0, .int .u64 0] := tcells_false
  rcases Nat.lt_or_ge k 2 with h2 | h2
  · have : k = 0 ∨ k = 1 := by omega
    rcases this with rfl | rfl
    · have e0 : Bdd.D n (Bdd.tab L) 0 = fun _ => false := funext fun y => Bdd.D_zero y
      rw [e0]
      have hB := Blk.new w (tcells fun _ => false) 49
      have HB := Lib.hid hB
      have HZ := Lib.hid hz
      clear hB hz ih e0
      go_enter Tryz.func142, Tryz.ntmps142
      go_wp2
      refine bodyPost_ret (results_table2 (F := fun _ => false) (r := w.heap.size) rfl rfl rfl ?_) rfl ⟨rfl, (Fr.refl [] w).alloc _⟩
      have := HB.out
      rw [HZ.out] at this ⊢; exact this
    · have e0 : Bdd.D n (Bdd.tab L) 1 = fun _ => true := funext fun y => Bdd.D_one y
      rw [e0]
      have hB := Blk.new w #[.int .u64 0, .int .u64 0, .int .u64 0, .int .u64 0] 49
      have hn : ∀ w, Calls Tryz.prog 111 #[.agg #[.int .u64 0, .int .u64 0, .int .u64 0, .int .u64 0]] w fun e w' => e = .returned (tv fun _ => true) ∧ Fr [] w w' := fun w => by
        have := tnot_any (fun _ => false) w
        rw [show tv (fun _ => false) = .agg #[.int .u64 0, .int .u64 0, .int .u64 0, .int .u64 0] from congrArg Value.agg hz] at this
        exact this
      have HN := Lib.hid hn
      clear hz ih e0 hn
      go_enter Tryz.func142, Tryz.ntmps142
      go_wp2_with fail
      refine (HN.out _).mono ?_
      rintro e w1 ⟨rfl, hF⟩
      have hR := hB.fr hF (by simp)
      have d0 := hR.cell 0 (v := .int .u64 0) rfl
      have d1 := hR.cell 1 (v := .int .u64 0) rfl
      have d2 := hR.cell 2 (v := .int .u64 0) rfl
      have d3 := hR.cell 3 (v := .int .u64 0) rfl
      have g0 := hR.free 0
      have g1 := hR.free 1
      have g2 := hR.free 2
      have g3 := hR.free 3
      have HF := Lib.hid (((Fr.refl [] w).alloc (.cells #[.int .u64 0, .int .u64 0, .int .u64 0, .int .u64 0] 49)).then hF)
      have HR := Lib.hid hR
      clear hB hF hR
      go_wp2
      refine bodyPost_ret (results_table2 rfl rfl rfl (HR.out.four rfl)) rfl ⟨rfl, ?_⟩
      exact (((HF.out.setCell _ (.inr (Nat.le_refl _))).setCell _ (.inr (Nat.le_refl _))).setCell _ (.inr (Nat.le_refl _))).setCell _ (.inr (Nat.le_refl _))
  · obtain ⟨d, hdk⟩ := hk.node h2
    have hlv := Bdd.lev_node (n := n) h2 hdk
    have hw := h.wf
    have hl := hw.lv hdk
    have llo := hw.llo hdk
    have lhi := hw.lhi hdk
    have hlo := hw.lo hdk
    have hhi := hw.hi hdk
    have hne := hw.ne hdk
    have fin : ∀ y, ((y d.lv && Bdd.D n (Bdd.tab L) d.hi y) || (!(y d.lv) && Bdd.D n (Bdd.tab L) d.lo y)) = Bdd.D n (Bdd.tab L) k y := fun y => by
      rw [Bdd.D_node hw hdk]; cases y d.lv <;> simp
    rw [hlv] at hd ih
    obtain ⟨lv, hlvv⟩ : ∃ lv, lv = d.lv := ⟨_, rfl⟩
    rw [← hlvv] at hd ih hl llo lhi fin
    obtain ⟨g, cap, rfl, hcap, v0, v1, v2, v3⟩ := hV.get (varsL_get hl)
    rw [varsL_len] at *
    have hB := Blk.new w #[.int .u64 0, .int .u64 0, .int .u64 0, .int .u64 0] 49
    have F0 : Fr [] w (w.alloc (.cells #[.int .u64 0, .int .u64 0, .int .u64 0, .int .u64 0] 49)) := (Fr.refl [] w).alloc _
    have hS := h.fr F0 (by simp)
    have hLv := sto_level hS hk
    rw [hlv, ← hlvv] at hLv
    have hIs := sto_isNd hS hk
    have hLo := fun (w1 : World) (f : Fr [] w w1) => sto_low (h.fr f (by simp)) hdk
    have hHi := fun (w1 : World) (f : Fr [] w w1) => sto_high (h.fr f (by simp)) hdk
    have n8 := h.vars.2
    have n0 : ((k : Int) == 0) = false := ne_test0 (by omega)
    have n1 : ((k : Int) == 1) = false := by rw [beq_eq_false_iff_ne]; omega
    have t1 : decide ((lv : Int) < (deep : Int)) = false := by simp; omega
    have t2 : decide ((n : Int) ≤ (lv : Int)) = false := by simp; omega
    have t3 : ((d.lo : Int) != (d.hi : Int)) = true := by simp; omega
    have HIH := Lib.hid ih
    have HLV := Lib.hid hLv
    have HIS := Lib.hid hIs
    have HLO := Lib.hid hLo
    have HHI := Lib.hid hHi
    have HB := Lib.hid hB
    have HF0 := Lib.hid F0
    have HFIN := Lib.hid fin
    have HNE := Lib.hid hne
    clear ih hLv hIs hLo hHi hB F0 fin hS hne hlv hlvv
    go_enter Tryz.func142, Tryz.ntmps142
    go_wp2_with fail
    refine HLV.out.mono ?_
    rintro e w1 ⟨rfl, rfl⟩
    go_wp2_with fail
    refine HIS.out.mono ?_
    rintro e w1 ⟨rfl, rfl⟩
    go_wp2_with fail
    with_reducible refine (HLO.out _ HF0.out).mono ?_
    rintro e w1 ⟨rfl, rfl⟩
    go_wp2_with fail
    with_reducible refine (HIH.out _ d.lo lv HF0.out hlo llo llo).mono ?_
    rintro e w1 ⟨rfl, hFa⟩
    have HFa := Lib.hid (HF0.out.then hFa)
    have HBa := Lib.hid (HB.out.fr hFa (by simp))
    clear hFa
    go_wp2_with fail
    have hA := Blk.new w1 (tcells (Bdd.D n (Bdd.tab L) d.lo)) 49
    have HFb := Lib.hid (HFa.out.alloc (.cells (tcells (Bdd.D n (Bdd.tab L) d.lo)) 49))
    with_reducible refine (HHI.out _ HFb.out).mono ?_
    rintro e w2 ⟨rfl, rfl⟩
    go_wp2_with fail
    with_reducible refine (HIH.out _ d.hi lv HFb.out hhi lhi lhi).mono ?_
    rintro e w2 ⟨rfl, hFc⟩
    have HFc := Lib.hid (HFb.out.then hFc)
    have HBc := Lib.hid ((HBa.out.alloc (.cells (tcells (Bdd.D n (Bdd.tab L) d.lo)) 49)).fr hFc (by simp))
    have HAc := Lib.hid (hA.fr hFc (by simp))
    clear hFc hA
    go_wp2_with fail
    have hten : Ten (idF lv) (Bdd.D n (Bdd.tab L) d.hi) (Bdd.D n (Bdd.tab L) d.lo) g lv w2.heap.size w1.heap.size w.heap.size (w2.alloc (.cells (tcells (Bdd.D n (Bdd.tab L) d.hi)) 49)).drew := by
      have f := (HFc.out.alloc (.cells (tcells (Bdd.D n (Bdd.tab L) d.hi)) 49)).drew
      exact ⟨⟨f.cell v0 (by simp), f.cell v1 (by simp), f.cell v2 (by simp), f.cell v3 (by simp)⟩, Blk.new w2 _ _, HAc.out.alloc _, HBc.out.alloc _⟩
    have HT := Lib.hid hten
    have HFd := Lib.hid (HFc.out.alloc (.cells (tcells (Bdd.D n (Bdd.tab L) d.hi)) 49)).drew
    have nr1 : w.heap.size ≠ w2.heap.size := by have := HBc.out.lt; omega
    have nr2 : w.heap.size ≠ w1.heap.size := by have := HBa.out.lt; omega
    have nr3 : w.heap.size ≠ g := fun e => by have := lt_of_cell v0; simp at this; omega
    clear hten v0 v1 v2 v3
    generalize w2.alloc (.cells (tcells (Bdd.D n (Bdd.tab L) d.hi)) 49) = w4 at HT HFd ⊢
    generalize w2.heap.size = b13 at HT nr1 ⊢
    generalize w1.heap.size = b11 at HT nr2 ⊢
    obtain ⟨r, hr⟩ : ∃ r, r = w.heap.size := ⟨_, rfl⟩
    have HRL := Lib.hid (show w.heap.size ≤ r by omega)
    rw [← hr] at HT nr1 nr2 nr3 ⊢
    clear hr
    obtain ⟨F1, hF1⟩ : ∃ F, F = Bdd.D n (Bdd.tab L) d.hi := ⟨_, rfl⟩
    obtain ⟨F0, hF0⟩ : ∃ F, F = Bdd.D n (Bdd.tab L) d.lo := ⟨_, rfl⟩
    have HFN := Lib.hid (show (fun y : Nat → Bool => (y lv && F1 y) || (!(y lv) && F0 y)) = Bdd.D n (Bdd.tab L) k from funext fun y => by rw [hF1, hF0]; exact HFIN.out y)
    rw [← hF1, ← hF0] at HT ⊢
    clear hF1 hF0
    obtain ⟨o0, o1, o2, o3, o4, o5, o6, o7, o8, o9, o10, o11, o12, o13, o14, o15, o16, o17, o18, o19⟩ := HT.out.all
    go_region_held3 (fun w' => w'.cell? ⟨g, lv * 4, none⟩ = some (.int .u64 (wd (idF lv) 0 : Nat)) ∧ w'.cell? ⟨g, lv * 4 + 1, none⟩ = some (.int .u64 (wd (idF lv) 1 : Nat)) ∧ w'.cell? ⟨g, lv * 4 + 2, none⟩ = some (.int .u64 (wd (idF lv) 2 : Nat)) ∧ w'.cell? ⟨g, lv * 4 + 3, none⟩ = some (.int .u64 (wd (idF lv) 3 : Nat)) ∧ w'.cell? ⟨b13, 0, none⟩ = some (.int .u64 (wd F1 0 : Nat)) ∧ w'.cell? ⟨b13, 1, none⟩ = some (.int .u64 (wd F1 1 : Nat)) ∧ w'.cell? ⟨b13, 2, none⟩ = some (.int .u64 (wd F1 2 : Nat)) ∧ w'.cell? ⟨b13, 3, none⟩ = some (.int .u64 (wd F1 3 : Nat)) ∧ w'.cell? ⟨b11, 0, none⟩ = some (.int .u64 (wd F0 0 : Nat)) ∧ w'.cell? ⟨b11, 1, none⟩ = some (.int .u64 (wd F0 1 : Nat)) ∧ w'.cell? ⟨b11, 2, none⟩ = some (.int .u64 (wd F0 2 : Nat)) ∧ w'.cell? ⟨b11, 3, none⟩ = some (.int .u64 (wd F0 3 : Nat))) (go_keep)
      (first
       | (go_at_call 152; (with_reducible refine (tite_any (idF lv) F1 F0 _).mono ?_); rintro e w5 ⟨rfl, hA⟩; have H1 := Lib.hid (HT.out.fr hA); have G1 := Lib.hid (HFd.out.then hA); obtain ⟨p0, p1, p2, p3, p4, p5, p6, p7, p8, p9, p10, p11, p12, p13, p14, p15, p16, p17, p18, p19⟩ := H1.out.all; clear hA o0 o1 o2 o3 o4 o5 o6 o7 o8 o9 o10 o11 o12 o13 o14 o15 o16 o17 o18 o19)
       | (go_at_call 127; (with_reducible refine (HLO.out _ G1.out).mono ?_); rintro e w6 ⟨rfl, rfl⟩)
       | (go_at_call 128; (with_reducible refine (HHI.out _ G1.out).mono ?_); rintro e w7 ⟨rfl, rfl⟩))
    go_wp2
    refine bodyPost_ret (results_table2 (x := .bool true) rfl rfl rfl (H1.out.r.four rfl)) rfl ⟨?_, ?_⟩
    · rw [← HFN.out]; rfl
    · exact (((G1.out.setCell _ (.inr HRL.out)).setCell _ (.inr HRL.out)).setCell _ (.inr HRL.out)).setCell _ (.inr HRL.out)

theorem pwalk_any : ∀ (m : Nat) {w : World} {k deep : Nat} {vv : Value}, Sto w s B n room off L → n - Bdd.lev n (Bdd.tab L) k ≤ m → Bdd.IsNd (Bdd.tab L) k → TabsAt w vv (varsL n) → deep ≤ Bdd.lev n (Bdd.tab L) k →
    Calls Tryz.prog 142 #[.pointer (some ⟨s, 0, none⟩), .int .u32 (k : Int), vv, .int .i64 (deep : Int)] w fun e w' => e = .returned (.tuple #[tv (Bdd.D n (Bdd.tab L) k), .bool true]) ∧ Fr [] w w'
  | 0, w, k, deep, vv, h, hm, hk, hV, hd => pwalk_step h hk hV hd fun w1 c d f hc hl _ => by
    have := Bdd.lev_le h.wf c; omega
  | m + 1, w, k, deep, vv, h, hm, hk, hV, hd => pwalk_step h hk hV hd fun w1 c d f hc hl hd' => by
    have := pwalk_any m (w := w1) (k := c) (deep := d + 1) (h.fr f (by simp)) (by have := Bdd.lev_le h.wf c; omega) hc (hV.fr f) (by omega)
    rw [show ((d : Int) + 1) = ((d + 1 : Nat) : Int) by omega]; exact this

theorem Tryz.info_func : (Tryz.prog.info? 49).map (fun i => (i.zero, i.size, i.bytes)) = some (some (.agg #[.int .u64 0, .int .u64 0, .int .u64 0, .int .u64 0]), 4, 32) := by kernel_rfl

def TabsOut (Fs : List Fun) (w : World) (v : Value) (wr : World) : Prop := TabsAt wr v Fs ∧ Fr [] w wr ∧ ∀ k, v.ownBlock = some k → w.heap.size ≤ k
theorem TabsOut.start (w : World) : TabsOut [] w (.slice none 0 0) w := ⟨TabsAt.nil w, Fr.refl [] w, fun k hk => by cases hk⟩
theorem TabsOut.then {Fs : List Fun} {w wr w1 : World} {v : Value} (h : TabsOut Fs w v wr) (f : Fr [] wr w1) : TabsOut Fs w v w1 := ⟨h.1.fr f, h.2.1.then f, h.2.2⟩
theorem TabsOut.push {Fs Gs : List Fun} {F : Fun} {g cap m : Nat} {w wr w1 : World} {v : Value} {o : Obj} (e : Gs = Fs ++ [F]) (hm : Fs.length = m) (h : TabsOut Fs w v wr)
    (hown : w1.ownsRow 0 49 4 (.slice (some ⟨g, 0, none⟩) (m + 1) cap) (m + 1) ((Fs.flatMap fun F => (tcells F).toList) ++ (tcells F).toList)) (hg : (wr.alloc o).grownBy w1 v.ownBlock) (hat : v.ownBlock = some g ∨ g = wr.heap.size + 1) :
    TabsOut Gs w (.slice (some ⟨g, 0, none⟩) (m + 1) cap) w1 := by
  subst e
  subst hm
  have s1 := h.2.1.size
  refine ⟨?_, (h.2.1.alloc o).grown hg (fun k hk => .inr (h.2.2 k hk)), fun k hk => ?_⟩
  · unfold TabsAt
    rw [List.length_append, List.flatMap_append]
    simpa using hown
  · simp only [Value.ownBlock, Option.some.injEq] at hk
    subst hk
    rcases hat with h1 | h1
    · exact h.2.2 _ h1
    · omega
theorem varsL_succ (n : Nat) : varsL (n + 1) = varsL n ++ [idF n] := by simp [varsL, List.range_succ]

set_option maxHeartbeats 4000000 in
set_option maxRecDepth 8000 in
theorem pfunc_any (h : Sto w s B n room off L) {k : Nat} (hk : Bdd.IsNd (Bdd.tab L) k) :
    Calls Tryz.prog 74 #[.pointer (some ⟨s, 0, none⟩), .int .u32 (k : Int)] w fun e w' => e = .returned (.tuple #[tv (Bdd.D n (Bdd.tab L) k), .bool true]) ∧ Fr [] w w' := by
  obtain ⟨i0, hi, hz0, hz1, hz2⟩ := info_parts Tryz.info_func
  have hn := h.vars
  have hB := Blk.new w #[.int .u64 0, .int .u64 0, .int .u64 0, .int .u64 0] 49
  have F0 : Fr [] w (w.alloc (.cells #[.int .u64 0, .int .u64 0, .int .u64 0, .int .u64 0] 49)) := (Fr.refl [] w).alloc _
  have HS := Lib.hid (h.fr F0 (by simp))
  have HH := Lib.hid h
  have HB := Lib.hid hB
  have HF0 := Lib.hid F0
  clear h hB F0
  go_enter Tryz.func74, Tryz.ntmps74
  go_wp2_with fail
  refine (sto_order HS.out).mono ?_
  rintro e w1 ⟨b', rfl, hO, hF1, hlt⟩
  have HF1 := Lib.hid (HF0.out.then hF1)
  have HB1 := Lib.hid (HB.out.fr hF1 (by simp))
  clear hF1
  go_wp2_with fail
  refine (all_any b' n _ hO hn.1 hn.2).mono ?_
  rintro e w2 ⟨va, rfl, hA, hF2, hown⟩
  obtain ⟨aa, acap, rfl, _⟩ := row_shape hA
  rw [List.length_range] at *
  have HA := Lib.hid hA
  have HF2 := Lib.hid (HF1.out.then hF2)
  have HB2 := Lib.hid (HB1.out.fr hF2 (by simp))
  clear hO hF2 hA hown hlt
  go_wp2_with fail
  go_loopg [7, 8] n (fun kk v i wr => ∃ j : Nat, j ≤ n ∧ kk = n - j ∧ i = .int .i64 (j : Int) ∧ TabsOut (varsL j) w2 v wr)
  case atStart => exact ⟨0, by omega, by omega, rfl, TabsOut.start w2⟩
  case round =>
    obtain ⟨j, hj, hkk, rfl, hr⟩ := hrel
    by_cases hlt : j < n
    · obtain ⟨ga, ca, e, ci⟩ := intsAt_get (row_fr HA.out hr.2.1 (by simp)) (i := j) (x := j) (List.getElem?_range hlt)
      injection e with e1 e2 e3
      subst e1
      have HR := Lib.hid hr
      have HVL := Lib.hid (varsL_succ j)
      have hvl := varsL_len j
      clear e2 e3 hr
      generalize varsL j = vl at *
      go_wp2_with fail
      refine (tvar_any j _ (by omega)).mono ?_
      rintro e w3 ⟨rfl, hF3⟩
      have HR3 := Lib.hid (HR.out.then hF3)
      clear ci hF3
      go_wp2_with (at_builtin; go_loud (refine wpList_append_lies _ rfl _ _ _ rfl 0 49 i0 (.agg #[.int .u64 0, .int .u64 0, .int .u64 0, .int .u64 0]) 4 32 Tryz.underlying51 hi hz0 hz1 hz2 rfl (by omega) u7 vl.length _ rfl (by exact World.ownsRow.alloc HR3.out.1 (.cells (tcells (idF j)) 49)) ⟨w3.heap.size, 0, none⟩ 1 1 (tcells (idF j)).toList rfl rfl ?hnews ?h1 (by omega) ?h63 (by omega) (Nat.zero_le _) (w3.heap.size + 1) (by simp) ?_))
      case hnews =>
        intro i u hi
        exact hi
      case h1 =>
        exact ⟨rfl, rfl, rfl, rfl⟩
      case h63 => unfold maxLen; omega
      · intro g cap w4 hown4 hgrow4 hat4 hglt4
        have HR4 := Lib.hid (TabsOut.push HVL.out hvl HR3.out hown4 hgrow4 hat4)
        clear hown4 hgrow4 hat4 hglt4
        go_wp2
        go_roundg (n - (j + 1))
        case measure => omega
        case rel => exact ⟨j + 1, by omega, rfl, by go_num, HR4.out⟩
    · have e : j = n := by omega
      subst e
      have hV := hr.1
      have HF3 := Lib.hid (HF2.out.then hr.2.1)
      have HB3 := Lib.hid (HB2.out.fr hr.2.1 (by simp))
      clear hr
      go_wp2_with fail
      refine (pwalk_any j (HH.out.fr HF3.out (by simp)) (Nat.sub_le _ _) hk hV (deep := 0) (Nat.zero_le _)).mono ?_
      rintro e w5 ⟨rfl, hF5⟩
      have HF5 := Lib.hid (HF3.out.then hF5)
      have hR := HB3.out.fr hF5 (by simp)
      have d0 := hR.cell 0 (v := .int .u64 0) rfl
      have d1 := hR.cell 1 (v := .int .u64 0) rfl
      have d2 := hR.cell 2 (v := .int .u64 0) rfl
      have d3 := hR.cell 3 (v := .int .u64 0) rfl
      have g0 := hR.free 0
      have g1 := hR.free 1
      have g2 := hR.free 2
      have g3 := hR.free 3
      have HR := Lib.hid hR
      clear hF5 hR hV
      go_wp2
      refine bodyPost_ret (results_table2 (x := .bool true) rfl rfl rfl (HR.out.four rfl)) rfl ⟨rfl, ?_⟩
      exact (((HF5.out.setCell _ (.inr (Nat.le_refl _))).setCell _ (.inr (Nat.le_refl _))).setCell _ (.inr (Nat.le_refl _))).setCell _ (.inr (Nat.le_refl _))

set_option maxHeartbeats 4000000 in
set_option maxRecDepth 8000 in
theorem pis_any (h : Sto w s B n room off L) {k : Nat} (hk : Bdd.IsNd (Bdd.tab L) k) (F : Fun) :
    Calls Tryz.prog 57 #[.pointer (some ⟨s, 0, none⟩), .int .u32 (k : Int), tv F] w fun e w' => e = .returned (.bool (eqT (Bdd.D n (Bdd.tab L) k) F)) ∧ Fr [] w w' := by
  have hB := Blk.new w (tcells F) 49
  have F0 : Fr [] w (w.alloc (.cells (tcells F) 49)) := (Fr.refl [] w).alloc _
  have HS := Lib.hid (h.fr F0 (by simp))
  have HB := Lib.hid hB
  have HF0 := Lib.hid F0
  clear h hB F0
  go_enter Tryz.func57, Tryz.ntmps57
  go_wp2_with fail
  refine (pfunc_any HS.out hk).mono ?_
  rintro e w1 ⟨rfl, hF⟩
  have HF1 := Lib.hid (HF0.out.then hF)
  have hb1 := (HB.out.fr hF (by simp)).alloc (.cells (tcells (Bdd.D n (Bdd.tab L) k)) 49)
  have hb2 := Blk.new w1 (tcells (Bdd.D n (Bdd.tab L) k)) 49
  have c0 := hb1.cell 0 (v := .int .u64 (wd F 0 : Nat)) rfl
  have c1 := hb1.cell 1 (v := .int .u64 (wd F 1 : Nat)) rfl
  have c2 := hb1.cell 2 (v := .int .u64 (wd F 2 : Nat)) rfl
  have c3 := hb1.cell 3 (v := .int .u64 (wd F 3 : Nat)) rfl
  have he := run_eqT (Bdd.D n (Bdd.tab L) k) F
  clear hF hb1 hb2
  go_wp2
  go_ret
  exact ⟨rfl, HF1.out.alloc _⟩
end
end Go.Proofs.YtiojnjihbidbiaaGreat
