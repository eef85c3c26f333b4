/- WordReckons, walked. -/
import Derived.Test.YtiojnjihbidbiaaGreatReck6
import Derived.Below
import Derived.Deep.AppendLies
namespace Go.Proofs.YtiojnjihbidbiaaGreat
open Go.RowKit
attribute [local go_sem ↓] Go.wp_at_zero Go.wp_at_succ
set_option linter.unusedVariables false
attribute [local irreducible] wd

theorem trim_tf (z : List Nat) (i : Nat) (w : World) : Calls Tryz.prog 38 #[tv (FI z i), .int .i64 6] w fun e w' => e = .returned (tv (TF z i)) ∧ Fr [] w w' := ttrim_any (FI z i) 6 w (by omega)

theorem tcells_one (F : Fun) : ∀ u ∈ (tcells F).toList, u.oneCell' = true := by
  intro u hu
  simp at hu
  rcases hu with rfl | rfl | rfl | rfl <;> rfl

/-- A table more, in a region that draws its order. -/
theorem step_tab {ops : Array Oper} {o : Oper} {a : Act} {K : Act → World → Prop} {Q : Exit → Act → World → Prop} {E : Prop} {w0 : World} (F : Fun) {v : Value} {Fs : List Fun} (hT : TabsAt w0 v Fs) {m : Nat} (hm : Fs.length = m) (hl : m ≤ 100) (hgd : o.guard = none) (s x : Operand)
    (ho : o.op = .call { callee := .builtin .append, args := #[s, x], argTypes := #[51, 51] }) (hs : a.eval s = v) (hx : a.eval x = .slice (some ⟨w0.heap.size, 0, none⟩) 1 1)
    (h : ∀ g cap w', w'.ownsRow 0 49 4 (.slice (some ⟨g, 0, none⟩) (m + 1) cap) (m + 1) ((Fs.flatMap fun F => (tcells F).toList) ++ (tcells F).toList) → (w0.alloc (.cells (tcells F) 49)).grownBy w' v.ownBlock → (v.ownBlock = some g ∨ g = w0.heap.size + 1) → g < w'.heap.size →
      K (a.put o.dst (.slice (some ⟨g, 0, none⟩) (m + 1) cap)) w') :
    if Region.wanted o (yielded ops a.tmps) = true then Oper.wp Tryz.prog o a (w0.alloc (.cells (tcells F) 49)) K Q else E := by
  subst hm
  obtain ⟨i0, hi, hz0, hz1, hz2⟩ := info_parts Tryz.info_func
  exact step_append_lies (P := Tryz.prog) (w0.alloc (.cells (tcells F) 49)) hgd s x 51 ho 0 49 i0 (.agg #[.int .u64 0, .int .u64 0, .int .u64 0, .int .u64 0]) 4 32 Tryz.underlying51 hi hz0 hz1 hz2 rfl (by omega) v Fs.length _ hs
    (World.ownsRow.alloc hT (.cells (tcells F) 49)) ⟨w0.heap.size, 0, none⟩ 1 1 (tcells F).toList hx rfl (World.news_of_block (cs := tcells F) (t := 49) (fr := (0, 0)) (heap_alloc_new w0 _)) (tcells_one F) (by omega) (by unfold maxLen; omega) (by omega) (Nat.zero_le _) (w0.heap.size + 1) (by simp) h

/-- The words of one function of each list are where they were. -/
def EightAt (bf j : Nat) (z1 z2 : List Nat) (w' : World) : Prop :=
  (w'.cell? ⟨bf, j * 4, none⟩ = some (.int .u64 (wd (FI z1 j) 0 : Nat)) ∧ w'.cell? ⟨bf, j * 4 + 1, none⟩ = some (.int .u64 (wd (FI z1 j) 1 : Nat)) ∧ w'.cell? ⟨bf, j * 4 + 2, none⟩ = some (.int .u64 (wd (FI z1 j) 2 : Nat)) ∧ w'.cell? ⟨bf, j * 4 + 3, none⟩ = some (.int .u64 (wd (FI z1 j) 3 : Nat))) ∧
  (w'.cell? ⟨bf + 1, j * 4, none⟩ = some (.int .u64 (wd (FI z2 j) 0 : Nat)) ∧ w'.cell? ⟨bf + 1, j * 4 + 1, none⟩ = some (.int .u64 (wd (FI z2 j) 1 : Nat)) ∧ w'.cell? ⟨bf + 1, j * 4 + 2, none⟩ = some (.int .u64 (wd (FI z2 j) 2 : Nat)) ∧ w'.cell? ⟨bf + 1, j * 4 + 3, none⟩ = some (.int .u64 (wd (FI z2 j) 3 : Nat)))
theorem EightAt.fr {bf j : Nat} {z1 z2 : List Nat} {w w' : World} (h : EightAt bf j z1 z2 w) (f : Fr [] w w') : EightAt bf j z1 z2 w' := by
  obtain ⟨⟨c0, c1, c2, c3⟩, d0, d1, d2, d3⟩ := h
  exact ⟨⟨f.cell c0 (by simp), f.cell c1 (by simp), f.cell c2 (by simp), f.cell c3 (by simp)⟩, f.cell d0 (by simp), f.cell d1 (by simp), f.cell d2 (by simp), f.cell d3 (by simp)⟩

set_option maxHeartbeats 1000000 in
set_option maxRecDepth 8000 in
theorem wordReckons_any (a0 : Int) (z1 z2 z3 : List Nat) (w : World) (w0 : (Lit.int .u8 a0).wf = true) (w1 : z1.length = 16 ∧ ∀ x ∈ z1, x < 2 ^ 64) (w2 : z2.length = 16 ∧ ∀ x ∈ z2, x < 2 ^ 64) (w3 : z3.length = 4 ∧ ∀ x ∈ z3, x < 2 ^ 64) :
    Calls Tryz.prog 6 #[.int .u8 a0, .agg (wordCells z1), .agg (wordCells z2), .agg (wordCells z3)] w fun e w' => e = .returned (.bool true) ∧ Below w.heap.size w w' := by
  have ha : 0 ≤ a0 ∧ a0 < 256 := by simp [Lit.wf, IntKind.min, IntKind.max, IntKind.signed, IntKind.bits] at w0; omega
  obtain ⟨n, hn, n1, n4⟩ : ∃ n : Nat, a0 % 4 + 1 = (n : Int) ∧ 1 ≤ n ∧ n ≤ 4 := ⟨(a0 % 4 + 1).toNat, by omega, by omega, by omega⟩
  obtain ⟨i0, hi, hz0, hz1, hz2⟩ := info_parts Tryz.info_func
  have b1 := Blk.new w (wordCells z1) 50
  have b2 := Blk.new (w.alloc (.cells (wordCells z1) 50)) (wordCells z2) 50
  have b3 := Blk.new ((w.alloc (.cells (wordCells z1) 50)).alloc (.cells (wordCells z2) 50)) (wordCells z3) 49
  simp only [World.size_alloc] at b2 b3
  have b1' := (b1.alloc (.cells (wordCells z2) 50)).alloc (.cells (wordCells z3) 49)
  have b2' := b2.alloc (.cells (wordCells z3) 49)
  have F3 : Fr [] w (((w.alloc (.cells (wordCells z1) 50)).alloc (.cells (wordCells z2) 50)).alloc (.cells (wordCells z3) 49)) := (((Fr.refl [] w).alloc _).alloc _).alloc _
  have HB1 := Lib.hid b1'
  have HB2 := Lib.hid b2'
  have HB3 := Lib.hid b3
  have HF3 := Lib.hid F3
  have HN := Lib.hid hn
  have HZ1 := Lib.hid w1
  have HZ2 := Lib.hid w2
  have HZ3 := Lib.hid w3
  clear b1 b2 b3 b1' b2' F3 w0 w1 w2 w3
  clear hn
  go_enter Tryz.func6, Tryz.ntmps6
  go_wp2_with fail
  generalize ((w.alloc (.cells (wordCells z1) 50)).alloc (.cells (wordCells z2) 50)).alloc (.cells (wordCells z3) 49) = W0 at *
  generalize hbf : w.heap.size = bf at HB1 HB2 HB3 ⊢
  have HBF := Lib.hid hbf
  clear hbf
  refine (known26 _).mono ?_
  rintro e wk ⟨rfl, hFk⟩
  go_wp2_with fail
  rw [HN.out]
  refine (snew_any 6 32768 _ (by omega) (by omega) (by omega) (by omega)).mono ?_
  rintro e w1 ⟨s, B, rfl, hS, hF1, hB⟩
  have HF1 := Lib.hid ((HF3.out.then hFk).then hF1)
  have HG1 := Lib.hid (HB1.out.fr (hFk.then hF1) (by simp))
  have HG2 := Lib.hid (HB2.out.fr (hFk.then hF1) (by simp))
  have HG3 := Lib.hid (HB3.out.fr (hFk.then hF1) (by simp))
  have HNB := Lib.hid (show bf + 1 + 1 ∉ B from fun hk => by have h1 := hB _ hk; have h2 := HB3.out.lt; have h3 := hFk.size; omega)
  have HS := Lib.hid (show Ses w w1 s B 6 32768 false [] from ⟨hS, HF1.out, fun k hk => by have := hB k hk; have := (HF3.out.then hFk).size; omega⟩)
  clear hS hF1 hB hFk HB1 HB2 HB3 HF3
  go_wp2_with fail
  go_loopg [12, 13, 14] n (fun kk lv mv i wr => ∃ j : Nat, j ≤ n ∧ kk = n - j ∧ i = .int .i64 (j : Int) ∧ TwoTabs w1 lv mv (rangeF (TF z1) j) (rangeF (TF z2) j) wr)
  case atStart => exact ⟨0, by omega, by omega, rfl, TwoTabs.start w1⟩
  case round =>
    obtain ⟨j, hj, hk, rfl, hT⟩ := hrel
    by_cases hlt : j < n
    · have hE : EightAt bf j z1 z2 w1 := ⟨FI_cells HG1.out HZ1.out.2 (i := j) (by have := HZ1.out.1; omega), FI_cells HG2.out HZ2.out.2 (i := j) (by have := HZ2.out.1; omega)⟩
      obtain ⟨⟨c0, c1, c2, c3⟩, d0, d1, d2, d3⟩ := (hE.fr hT.fr)
      have HE := Lib.hid hE
      clear hE
      have HT := Lib.hid hT
      have hl1 := rangeF_len (TF z1) j
      have hl2 := rangeF_len (TF z2) j
      have HR1 := Lib.hid (rangeF_succ (TF z1) j)
      have HR2 := Lib.hid (rangeF_succ (TF z2) j)
      have hjn : (j : Int) < (n : Int) := by omega
      have hn4 : (n : Int) ≤ 4 := by omega
      have hj4 : (j : Int) < 4 := by omega
      have hj0 : (0 : Int) ≤ (j : Int) := by omega
      clear hT
      generalize rangeF (TF z1) j = ps at *
      generalize rangeF (TF z2) j = qs at *
      go_wp2_with fail
      go_region_held3 (fun w' => (w'.cell? ⟨bf, j * 4, none⟩ = some (.int .u64 (wd (FI z1 j) 0 : Nat)) ∧ w'.cell? ⟨bf, j * 4 + 1, none⟩ = some (.int .u64 (wd (FI z1 j) 1 : Nat)) ∧ w'.cell? ⟨bf, j * 4 + 2, none⟩ = some (.int .u64 (wd (FI z1 j) 2 : Nat)) ∧ w'.cell? ⟨bf, j * 4 + 3, none⟩ = some (.int .u64 (wd (FI z1 j) 3 : Nat))) ∧ (w'.cell? ⟨bf + 1, j * 4, none⟩ = some (.int .u64 (wd (FI z2 j) 0 : Nat)) ∧ w'.cell? ⟨bf + 1, j * 4 + 1, none⟩ = some (.int .u64 (wd (FI z2 j) 1 : Nat)) ∧ w'.cell? ⟨bf + 1, j * 4 + 2, none⟩ = some (.int .u64 (wd (FI z2 j) 2 : Nat)) ∧ w'.cell? ⟨bf + 1, j * 4 + 3, none⟩ = some (.int .u64 (wd (FI z2 j) 3 : Nat)))) (go_keep)
        (first
         | (go_at_call 38; (with_reducible refine (trim_tf z1 j _).mono ?_); rintro e w5 ⟨rfl, hA⟩; have T5 := Lib.hid (HT.out.then (((Fr.refl [] wr).drew).then hA)); obtain ⟨⟨p0, p1, p2, p3⟩, q0, q1, q2, q3⟩ := HE.out.fr T5.out.fr; clear hA c0 c1 c2 c3 d0 d1 d2 d3)
         | (go_at_call 38; (with_reducible refine (trim_tf z2 j _).mono ?_); rintro e w7 ⟨rfl, hA⟩; have T7 := Lib.hid (T6.out.then hA); obtain ⟨⟨s0, s1, s2, s3⟩, t0, t1, t2, t3⟩ := HE.out.fr T7.out.fr; clear hA p0 p1 p2 p3 q0 q1 q2 q3)
         | (have hq := T5.out.l; go_loud (apply step_tab (TF z1 j) hq hl1 (by omega) (s := .tmp 67) (x := .tmp 72)); go_loud (case hgd => rfl); go_loud (case ho => rfl); go_loud (case hs => rfl); go_loud (case hx => rfl); intro g6 cap6 w6 hown6 hgrow6 hat6 hlt6; have T6 := Lib.hid (T5.out.push HR1.out hl1 hown6 hgrow6 hat6); obtain ⟨⟨p0, p1, p2, p3⟩, q0, q1, q2, q3⟩ := HE.out.fr T6.out.fr; clear hq hown6 hgrow6 hat6 hlt6)
         | (have hq := T7.out.m; go_loud (apply step_tab (TF z2 j) hq hl2 (by omega) (s := .tmp 74) (x := .tmp 79)); go_loud (case hgd => rfl); go_loud (case ho => rfl); go_loud (case hs => rfl); go_loud (case hx => rfl); intro g8 cap8 w8 hown8 hgrow8 hat8 hlt8; have T8 := Lib.hid ((T7.out.swap.push HR2.out hl2 hown8 hgrow8 hat8).swap); obtain ⟨⟨p0, p1, p2, p3⟩, q0, q1, q2, q3⟩ := HE.out.fr T8.out.fr; clear hq hown8 hgrow8 hat8 hlt8))
      go_wp2
      go_roundg (n - (j + 1))
      case measure => omega
      case rel => exact ⟨j + 1, by omega, rfl, by go_num, T8.out⟩
    · have e : n = j := by omega
      subst e
      have hc3 := HG3.out
      rw [words4 HZ3.out.1 HZ3.out.2] at hc3
      have hc3r := hc3.fr hT.fr (by simp)
      obtain ⟨c0, c1, c2, c3⟩ := hc3r.cells4
      have HT := Lib.hid hT
      have HC3 := Lib.hid hc3
      have HC3R := Lib.hid hc3r
      clear hT hc3 hc3r
      go_wp2_with fail
      with_reducible refine (trim_tf z3 0 _).mono ?_
      rintro e w5 ⟨rfl, hF5⟩
      have hb5 := HC3R.out.fr hF5 (by simp)
      have hb6 := hb5.four (F := TF z3 0) rfl
      have f0 := hb5.free 0
      have f1 := hb5.free 1
      have f2 := hb5.free 2
      have f3 := hb5.free 3
      obtain ⟨d0, d1, d2, d3⟩ := hb5.cells4
      have T5 := HT.out.then hF5
      have F6 : Fr [bf + 1 + 1] w5 ((((w5.setCell ⟨bf + 1 + 1, 0, none⟩ (.int .u64 (wd (TF z3 0) 0 : Nat))).setCell ⟨bf + 1 + 1, 1, none⟩ (.int .u64 (wd (TF z3 0) 1 : Nat))).setCell ⟨bf + 1 + 1, 2, none⟩ (.int .u64 (wd (TF z3 0) 2 : Nat))).setCell ⟨bf + 1 + 1, 3, none⟩ (.int .u64 (wd (TF z3 0) 3 : Nat))) :=
        ((((Fr.refl [bf + 1 + 1] w5).setCell _ (.inl (by simp))).setCell _ (.inl (by simp))).setCell _ (.inl (by simp))).setCell _ (.inl (by simp))
      have hlt1 := HC3.out.lt
      have R6 : RkAt w ((((w5.setCell ⟨bf + 1 + 1, 0, none⟩ (.int .u64 (wd (TF z3 0) 0 : Nat))).setCell ⟨bf + 1 + 1, 1, none⟩ (.int .u64 (wd (TF z3 0) 1 : Nat))).setCell ⟨bf + 1 + 1, 2, none⟩ (.int .u64 (wd (TF z3 0) 2 : Nat))).setCell ⟨bf + 1 + 1, 3, none⟩ (.int .u64 (wd (TF z3 0) 3 : Nat))) s B [] u12 u13 (rangeF (TF z1) n) (rangeF (TF z2) n) (bf + 1 + 1) (TF z3 0) :=
        ⟨⟨(HS.out.sto.fr T5.fr (by simp)).fr F6 (fun k hk hm => by simp only [List.mem_singleton] at hm; subst hm; exact HNB.out hk),
          (HS.out.fr.then T5.fr).trans F6 (fun x hx => .inr (by simp only [List.mem_singleton] at hx; subst hx; have := HBF.out; omega)), HS.out.new⟩,
          row_fr T5.l F6 (fun k hk hm => by simp only [List.mem_singleton] at hm; subst hm; have := T5.lown _ hk; omega), fun k hk hb => by have := T5.lown k hk; have := HS.out.sto.mem.2 k hb; omega,
          row_fr T5.m F6 (fun k hk hm => by simp only [List.mem_singleton] at hm; subst hm; have := T5.mown _ hk; omega), fun k hk hb => by have := T5.mown k hk; have := HS.out.sto.mem.2 k hb; omega, hb6, HNB.out⟩
      have hPl := rangeF_len (TF z1) n
      have hQl := rangeF_len (TF z2) n
      have hPd : ∀ (i : Nat) (F : Fun), (rangeF (TF z1) n)[i]? = some F → Dep 6 F := fun i F h => rangeF_dep z1 h
      have hQd : ∀ (i : Nat) (F : Fun), (rangeF (TF z2) n)[i]? = some F → Dep 6 F := fun i F h => rangeF_dep z2 h
      have hCd := TF_dep z3 0
      have hPl := rangeF_len (TF z1) n
      have hQl := rangeF_len (TF z2) n
      have hPd : ∀ (i : Nat) (F : Fun), (rangeF (TF z1) n)[i]? = some F → Dep 6 F := fun i F h => rangeF_dep z1 h
      have hQd : ∀ (i : Nat) (F : Fun), (rangeF (TF z2) n)[i]? = some F → Dep 6 F := fun i F h => rangeF_dep z2 h
      have hCd := TF_dep z3 0
      have hPl := rangeF_len (TF z1) n
      have hQl := rangeF_len (TF z2) n
      have hPd : ∀ (i : Nat) (F : Fun), (rangeF (TF z1) n)[i]? = some F → Dep 6 F := fun i F h => rangeF_dep z1 h
      have hQd : ∀ (i : Nat) (F : Fun), (rangeF (TF z2) n)[i]? = some F → Dep 6 F := fun i F h => rangeF_dep z2 h
      have hCd := TF_dep z3 0
      have hPl := rangeF_len (TF z1) n
      have hQl := rangeF_len (TF z2) n
      have hPd : ∀ (i : Nat) (F : Fun), (rangeF (TF z1) n)[i]? = some F → Dep 6 F := fun i F h => rangeF_dep z1 h
      have hQd : ∀ (i : Nat) (F : Fun), (rangeF (TF z2) n)[i]? = some F → Dep 6 F := fun i F h => rangeF_dep z2 h
      have hCd := TF_dep z3 0
      have HR6 := Lib.hid R6
      have HPL := Lib.hid hPl
      have HQL := Lib.hid hQl
      have HPD := Lib.hid hPd
      have HQD := Lib.hid hQd
      have HCD := Lib.hid hCd
      clear R6 F6 T5 hb5 hb6 hF5 hlt1
      clear HT HC3 HC3R HS HNB HG1 HG2 HG3 HF1 c0 c1 c2 c3 hPl hQl hPd hQd hCd
      go_wp2_with fail
      clear d0 d1 d2 d3 f0 f1 f2 f3
      have R6 := HR6.out
      clear HR6
      generalize (((w5.setCell ⟨bf + 1 + 1, 0, none⟩ (.int .u64 (wd (TF z3 0) 0 : Nat))).setCell ⟨bf + 1 + 1, 1, none⟩ (.int .u64 (wd (TF z3 0) 1 : Nat))).setCell ⟨bf + 1 + 1, 2, none⟩ (.int .u64 (wd (TF z3 0) 2 : Nat))).setCell ⟨bf + 1 + 1, 3, none⟩ (.int .u64 (wd (TF z3 0) 3 : Nat)) = w6 at *
      generalize rangeF (TF z1) n = Ps at *
      generalize rangeF (TF z2) n = Qs at *
      generalize TF z3 0 = Cf at *
      obtain ⟨L6, hL6⟩ : ∃ L : List Bdd.Nd, L = [] := ⟨_, rfl⟩
      have HH6 : Bdd.high L6 ≤ 0 := by rw [hL6]; exact Nat.le_refl _
      rw [← hL6] at R6
      clear hL6
      obtain ⟨B6, hB6⟩ : ∃ B', B' = B := ⟨_, rfl⟩
      rw [← hB6] at R6
      clear hB6
      refine (wmade_any R6.ses.sto R6.p R6.po (by have := HPL.out; omega) HPD.out (.inl (by have := HPL.out; omega))).mono ?_
      rintro e w7 ⟨v_a, h_a, B7, L7, rfl, hW, l_a, D7_a⟩
      have R7 := R6.evo hW.evo
      have HH7 : Bdd.high L7 ≤ 124 := by have := hW.evo.gr.hi; have := HPL.out; have := HQL.out; omega
      have A7_a := hW.at
      clear hW R6 HH6
      rw [HPL.out] at l_a
      go_wp2_with fail
      refine (wmade_any R7.ses.sto R7.q R7.qo (by have := HQL.out; omega) HQD.out (.inl (by have := HQL.out; omega))).mono ?_
      rintro e w8 ⟨v_b, h_b, B8, L8, rfl, hW, l_b, D8_b⟩
      have R8 := R7.evo hW.evo
      have A8_a := A7_a.evo hW.evo
      have D8_a := D7_a.more R7.ses.sto.wf hW.evo.gr
      have HH8 : Bdd.high L8 ≤ 248 := by have := hW.evo.gr.hi; have := HPL.out; have := HQL.out; omega
      have A8_b := hW.at
      clear hW R7 HH7 A7_a D7_a
      rw [HQL.out] at l_b
      obtain ⟨e0, e1, e2, e3⟩ := R8.c.cells4
      go_wp2_with fail
      with_reducible refine (pmake_any R8.ses.sto HCD.out (.inl (by omega))).mono ?_
      rintro e w9 ⟨k_c, B9, L9, rfl, hev, K9_c⟩
      have R9 := R8.evo hev
      have A9_a := A8_a.evo hev
      have D9_a := D8_a.more R8.ses.sto.wf hev.gr
      have A9_b := A8_b.evo hev
      have D9_b := D8_b.more R8.ses.sto.wf hev.gr
      have HH9 : Bdd.high L9 ≤ 279 := by have := hev.gr.hi; have := HPL.out; have := HQL.out; omega
      clear hev R8 HH8 A8_a D8_a A8_b D8_b
      clear e0 e1 e2 e3
      go_wp2_with fail
      refine (add_word R9.ses.sto A9_a.row A9_b.row A9_a.own A9_b.own l_a l_b n1 (by omega) D9_a D9_b (.inl (by omega))).mono ?_
      rintro e w10 ⟨v_s, h_s, k_o, B10, L10, rfl, hW, l_s, D10_s, K10_o⟩
      have R10 := R9.evo hW.evo
      have A10_a := A9_a.evo hW.evo
      have D10_a := D9_a.more R9.ses.sto.wf hW.evo.gr
      have A10_b := A9_b.evo hW.evo
      have D10_b := D9_b.more R9.ses.sto.wf hW.evo.gr
      have K10_c := K9_c.more R9.ses.sto.wf hW.evo.gr
      have HH10 : Bdd.high L10 ≤ 1147 := by have := hW.evo.gr.hi; have := HPL.out; have := HQL.out; omega
      have A10_s := hW.at
      clear hW R9 HH9 A9_a D9_a A9_b D9_b K9_c
      go_wp2_with fail
      refine (sub_word R10.ses.sto A10_a.row A10_b.row A10_a.own A10_b.own l_a l_b n1 (by omega) D10_a D10_b (.inl (by omega))).mono ?_
      rintro e w11 ⟨v_d, h_d, k_u, B11, L11, rfl, hW, l_d, D11_d, K11_u⟩
      have R11 := R10.evo hW.evo
      have A11_a := A10_a.evo hW.evo
      have D11_a := D10_a.more R10.ses.sto.wf hW.evo.gr
      have A11_b := A10_b.evo hW.evo
      have D11_b := D10_b.more R10.ses.sto.wf hW.evo.gr
      have A11_s := A10_s.evo hW.evo
      have D11_s := D10_s.more R10.ses.sto.wf hW.evo.gr
      have K11_c := K10_c.more R10.ses.sto.wf hW.evo.gr
      have K11_o := K10_o.more R10.ses.sto.wf hW.evo.gr
      have HH11 : Bdd.high L11 ≤ 2015 := by have := hW.evo.gr.hi; have := HPL.out; have := HQL.out; omega
      have A11_d := hW.at
      clear hW R10 HH10 A10_a D10_a A10_b D10_b A10_s D10_s K10_c K10_o
      go_wp2_with fail
      refine (mul_word R11.ses.sto A11_a.row A11_b.row A11_a.own A11_b.own l_a l_b n1 (by omega) D11_a D11_b (.inl (by omega))).mono ?_
      rintro e w12 ⟨v_m, h_m, B12, L12, rfl, hW, l_m, D12_m⟩
      have R12 := R11.evo hW.evo
      have A12_a := A11_a.evo hW.evo
      have D12_a := D11_a.more R11.ses.sto.wf hW.evo.gr
      have A12_b := A11_b.evo hW.evo
      have D12_b := D11_b.more R11.ses.sto.wf hW.evo.gr
      have A12_s := A11_s.evo hW.evo
      have D12_s := D11_s.more R11.ses.sto.wf hW.evo.gr
      have A12_d := A11_d.evo hW.evo
      have D12_d := D11_d.more R11.ses.sto.wf hW.evo.gr
      have K12_c := K11_c.more R11.ses.sto.wf hW.evo.gr
      have K12_o := K11_o.more R11.ses.sto.wf hW.evo.gr
      have K12_u := K11_u.more R11.ses.sto.wf hW.evo.gr
      have HH12 : Bdd.high L12 ≤ 9951 := by have := hW.evo.gr.hi; have := HPL.out; have := HQL.out; omega
      have A12_m := hW.at
      clear hW R11 HH11 A11_a D11_a A11_b D11_b A11_s D11_s A11_d D11_d K11_c K11_o K11_u
      go_wp2_with fail
      refine (less_word R12.ses.sto A12_a.row A12_b.row A12_a.own A12_b.own l_a l_b n1 (by omega) D12_a D12_b (.inl (by omega))).mono ?_
      rintro e w13 ⟨k_l, B13, L13, rfl, hev, K13_l⟩
      have R13 := R12.evo hev
      have A13_a := A12_a.evo hev
      have D13_a := D12_a.more R12.ses.sto.wf hev.gr
      have A13_b := A12_b.evo hev
      have D13_b := D12_b.more R12.ses.sto.wf hev.gr
      have A13_s := A12_s.evo hev
      have D13_s := D12_s.more R12.ses.sto.wf hev.gr
      have A13_d := A12_d.evo hev
      have D13_d := D12_d.more R12.ses.sto.wf hev.gr
      have A13_m := A12_m.evo hev
      have D13_m := D12_m.more R12.ses.sto.wf hev.gr
      have K13_c := K12_c.more R12.ses.sto.wf hev.gr
      have K13_o := K12_o.more R12.ses.sto.wf hev.gr
      have K13_u := K12_u.more R12.ses.sto.wf hev.gr
      have HH13 : Bdd.high L13 ≤ 10819 := by have := hev.gr.hi; have := HPL.out; have := HQL.out; omega
      clear hev R12 HH12 A12_a D12_a A12_b D12_b A12_s D12_s A12_d D12_d A12_m D12_m K12_c K12_o K12_u
      go_wp2_with fail
      refine (same_word R13.ses.sto A13_a.row A13_b.row A13_a.own A13_b.own l_a l_b n1 (by omega) D13_a D13_b (.inl (by omega))).mono ?_
      rintro e w14 ⟨k_e, B14, L14, rfl, hev, K14_e⟩
      have R14 := R13.evo hev
      have A14_a := A13_a.evo hev
      have D14_a := D13_a.more R13.ses.sto.wf hev.gr
      have A14_b := A13_b.evo hev
      have D14_b := D13_b.more R13.ses.sto.wf hev.gr
      have A14_s := A13_s.evo hev
      have D14_s := D13_s.more R13.ses.sto.wf hev.gr
      have A14_d := A13_d.evo hev
      have D14_d := D13_d.more R13.ses.sto.wf hev.gr
      have A14_m := A13_m.evo hev
      have D14_m := D13_m.more R13.ses.sto.wf hev.gr
      have K14_c := K13_c.more R13.ses.sto.wf hev.gr
      have K14_o := K13_o.more R13.ses.sto.wf hev.gr
      have K14_u := K13_u.more R13.ses.sto.wf hev.gr
      have K14_l := K13_l.more R13.ses.sto.wf hev.gr
      have HH14 : Bdd.high L14 ≤ 11191 := by have := hev.gr.hi; have := HPL.out; have := HQL.out; omega
      clear hev R13 HH13 A13_a D13_a A13_b D13_b A13_s D13_s A13_d D13_d A13_m D13_m K13_c K13_o K13_u K13_l
      go_wp2_with fail
      refine (ite_word R14.ses.sto K14_c A14_a.row A14_b.row A14_a.own A14_b.own l_a l_b n1 (by omega) D14_a D14_b (.inl (by omega))).mono ?_
      rintro e w15 ⟨v_i, h_i, B15, L15, rfl, hW, l_i, D15_i⟩
      have R15 := R14.evo hW.evo
      have A15_a := A14_a.evo hW.evo
      have D15_a := D14_a.more R14.ses.sto.wf hW.evo.gr
      have A15_b := A14_b.evo hW.evo
      have D15_b := D14_b.more R14.ses.sto.wf hW.evo.gr
      have A15_s := A14_s.evo hW.evo
      have D15_s := D14_s.more R14.ses.sto.wf hW.evo.gr
      have A15_d := A14_d.evo hW.evo
      have D15_d := D14_d.more R14.ses.sto.wf hW.evo.gr
      have A15_m := A14_m.evo hW.evo
      have D15_m := D14_m.more R14.ses.sto.wf hW.evo.gr
      have K15_c := K14_c.more R14.ses.sto.wf hW.evo.gr
      have K15_o := K14_o.more R14.ses.sto.wf hW.evo.gr
      have K15_u := K14_u.more R14.ses.sto.wf hW.evo.gr
      have K15_l := K14_l.more R14.ses.sto.wf hW.evo.gr
      have K15_e := K14_e.more R14.ses.sto.wf hW.evo.gr
      have HH15 : Bdd.high L15 ≤ 11315 := by have := hW.evo.gr.hi; have := HPL.out; have := HQL.out; omega
      have A15_i := hW.at
      clear hW R14 HH14 A14_a D14_a A14_b D14_b A14_s D14_s A14_d D14_d A14_m D14_m K14_c K14_o K14_u K14_l K14_e
      obtain ⟨ad_s, cp_s, rfl⟩ : ∃ aa acap, v_s = .slice aa n acap := by obtain ⟨aa, acap, e, _⟩ := A15_s.row.shape; exact ⟨aa, acap, by rw [e, l_s]⟩
      obtain ⟨ad_d, cp_d, rfl⟩ : ∃ aa acap, v_d = .slice aa n acap := by obtain ⟨aa, acap, e, _⟩ := A15_d.row.shape; exact ⟨aa, acap, by rw [e, l_d]⟩
      obtain ⟨ad_m, cp_m, rfl⟩ : ∃ aa acap, v_m = .slice aa n acap := by obtain ⟨aa, acap, e, _⟩ := A15_m.row.shape; exact ⟨aa, acap, by rw [e, l_m]⟩
      obtain ⟨ad_i, cp_i, rfl⟩ : ∃ aa acap, v_i = .slice aa n acap := by obtain ⟨aa, acap, e, _⟩ := A15_i.row.shape; exact ⟨aa, acap, by rw [e, l_i]⟩
      have HR15 := Lib.hid R15
      have HA15_a := Lib.hid A15_a
      have HA15_b := Lib.hid A15_b
      have HA15_s := Lib.hid A15_s
      have HA15_d := Lib.hid A15_d
      have HA15_m := Lib.hid A15_m
      have HA15_i := Lib.hid A15_i
      have HD15_a := Lib.hid D15_a
      have HD15_b := Lib.hid D15_b
      have HD15_s := Lib.hid D15_s
      have HD15_d := Lib.hid D15_d
      have HD15_m := Lib.hid D15_m
      have HD15_i := Lib.hid D15_i
      have HK15_c := Lib.hid K15_c
      have HK15_o := Lib.hid K15_o
      have HK15_u := Lib.hid K15_u
      have HK15_l := Lib.hid K15_l
      have HK15_e := Lib.hid K15_e
      have Hl_a := Lib.hid l_a
      have Hl_b := Lib.hid l_b
      have Hl_s := Lib.hid l_s
      have Hl_d := Lib.hid l_d
      have Hl_m := Lib.hid l_m
      have Hl_i := Lib.hid l_i
      clear R15 A15_a A15_b A15_s A15_d A15_m A15_i D15_a D15_b D15_s D15_d D15_m D15_i K15_c K15_o K15_u K15_l K15_e l_a l_b l_s l_d l_m l_i HH15
      have hn4 : (n : Int) ≤ 4 := by omega
      go_wp2_with fail
      refine (tables_any HR15.out.ses.sto HA15_s.out.row Hl_s.out n4 HD15_s.out).mono ?_
      rintro e x0 ⟨t_s, rfl, hT_s, hF⟩
      have HF0 := Lib.hid (hF)
      have HT0_s := Lib.hid hT_s
      clear hT_s hF
      go_wp2_with fail
      refine (tables_any (HR15.out.ses.sto.fr HF0.out (by simp)) (HA15_d.out.row.fr HF0.out (by simp)) Hl_d.out n4 HD15_d.out).mono ?_
      rintro e x1 ⟨t_d, rfl, hT_d, hF⟩
      have HF1 := Lib.hid (HF0.out.then hF)
      have HT1_s := Lib.hid (HT0_s.out.fr hF)
      have HT1_d := Lib.hid hT_d
      clear hT_d hF
      go_wp2_with fail
      refine (tables_any (HR15.out.ses.sto.fr HF1.out (by simp)) (HA15_m.out.row.fr HF1.out (by simp)) Hl_m.out n4 HD15_m.out).mono ?_
      rintro e x2 ⟨t_m, rfl, hT_m, hF⟩
      have HF2 := Lib.hid (HF1.out.then hF)
      have HT2_s := Lib.hid (HT1_s.out.fr hF)
      have HT2_d := Lib.hid (HT1_d.out.fr hF)
      have HT2_m := Lib.hid hT_m
      clear hT_m hF
      go_wp2_with fail
      refine (tables_any (HR15.out.ses.sto.fr HF2.out (by simp)) (HA15_i.out.row.fr HF2.out (by simp)) Hl_i.out n4 HD15_i.out).mono ?_
      rintro e x3 ⟨t_i, rfl, hT_i, hF⟩
      have HF3 := Lib.hid (HF2.out.then hF)
      have HT3_s := Lib.hid (HT2_s.out.fr hF)
      have HT3_d := Lib.hid (HT2_d.out.fr hF)
      have HT3_m := Lib.hid (HT2_m.out.fr hF)
      have HT3_i := Lib.hid hT_i
      clear hT_i hF
      have h4 := four_row (w1 := x3) HK15_o.out HK15_u.out HK15_l.out HK15_e.out
      have F4 : Fr [] x3 (x3.alloc (.cells #[.int .u32 (k_o : Int), .int .u32 (k_u : Int), .int .u32 (k_l : Int), .int .u32 (k_e : Int)] 28)) := (Fr.refl [] x3).alloc _
      have HF4 := Lib.hid (HF3.out.then F4)
      have HFa := Lib.hid F4
      have H4 := Lib.hid h4
      clear h4 F4
      go_wp2_with fail
      refine (tables_any (HR15.out.ses.sto.fr HF4.out (by simp)) H4.out.1 rfl (Nat.le_refl 4) H4.out.2).mono ?_
      rintro e x5 ⟨t_5, rfl, hT5, hF⟩
      have HF5 := Lib.hid (HF4.out.then hF)
      have HFb := Lib.hid (HFa.out.then hF)
      have HT5 := Lib.hid hT5
      have HT5_s := Lib.hid (HT3_s.out.fr HFb.out)
      have HT5_d := Lib.hid (HT3_d.out.fr HFb.out)
      have HT5_m := Lib.hid (HT3_m.out.fr HFb.out)
      have HT5_i := Lib.hid (HT3_i.out.fr HFb.out)
      clear hT5 hF
      go_wp2_with fail
      have hf5 : BtsAt x5 t_5 [cry addC (FL Ps) (FL Qs) n, cry subC (FL Ps) (FL Qs) n, cry subC (FL Ps) (FL Qs) n, eqF (FL Ps) (FL Qs) n] := HT5.out
      obtain ⟨g5, cp5, b0, b1, b2, b3, rfl, hf6⟩ := hf5.four
      have HFT := Lib.hid hf6
      clear hf6 hf5 HT5
      rw [low_m n n1 n4]
      obtain ⟨M, hM⟩ : ∃ M, M = 2 ^ n - 1 := ⟨_, rfl⟩
      rw [← hM]
      have HM := Lib.hid hM
      clear hM
      go_loopg [46] 256 (fun kk i wi => ∃ y : Nat, y ≤ 256 ∧ kk = 256 - y ∧ i = .int .i64 (y : Int) ∧ Fr [] x5 wi)
      case atStart => exact ⟨0, by omega, by omega, rfl, Fr.refl [] x5⟩
      case round =>
        obtain ⟨y, hy, hk, rfl, hFi⟩ := hrel
        by_cases hy2 : y < 256
        · have hyi : (y : Int) < 256 := by omega
          have RK := reck n n4 HM.out Cf (FL Ps) (FL Qs) (asg y)
          generalize hU : numOf (FL Ps) (asg y) n = U at RK
          generalize hV : numOf (FL Qs) (asg y) n = V at RK
          generalize h1 : numOf (sumF addC (FL Ps) (FL Qs)) (asg y) n = N1 at RK
          generalize h2 : numOf (sumF subC (FL Ps) (FL Qs)) (asg y) n = N2 at RK
          generalize h3 : numOf (mulF (FL Ps) (FL Qs) n) (asg y) n = N3 at RK
          generalize h4 : numOf (iteF Cf (FL Ps) (FL Qs)) (asg y) n = N4 at RK
          generalize hW : U * V = W at RK
          generalize hc : Cf (asg y) = c at RK
          generalize ho : cry addC (FL Ps) (FL Qs) n (asg y) = o at RK
          generalize hu : cry subC (FL Ps) (FL Qs) n (asg y) = u at RK
          generalize he : eqF (FL Ps) (FL Qs) n (asg y) = e at RK
          have GU := Lib.hid hU
          have GV := Lib.hid hV
          have G1 := Lib.hid h1
          have G2 := Lib.hid h2
          have G3 := Lib.hid h3
          have G4 := Lib.hid h4
          have GC := Lib.hid hc
          have GO := Lib.hid ho
          have GUU := Lib.hid hu
          have GE := Lib.hid he
          have HRK := Lib.hid RK
          have HFI := Lib.hid hFi
          clear hU hV h1 h2 h3 h4 hW hc ho hu he RK hFi
          have at1 := at_n (HR15.out.p.fr (HF5.out.then HFI.out)) HPL.out n4 hy2
          rw [GU.out] at at1
          have AT1 := Lib.hid at1
          clear at1
          go_wp2_with fail
          refine AT1.out.mono ?_
          rintro _ wa ⟨rfl, hFa⟩
          have HFA := Lib.hid (HFI.out.then hFa)
          clear hFa AT1
          have at2 := at_n (HR15.out.q.fr (HF5.out.then HFA.out)) HQL.out n4 hy2
          rw [GV.out] at at2
          have AT2 := Lib.hid at2
          clear at2
          go_wp2_with fail
          refine AT2.out.mono ?_
          rintro _ wb ⟨rfl, hFb⟩
          have HFB := Lib.hid (HFA.out.then hFb)
          clear hFb AT2
          obtain ⟨e0, e1, e2, e3⟩ := (HR15.out.c.fr (HF5.out.then HFB.out) (by simp)).cells4
          have hU16 : (U : Int) < 16 := by have := HRK.out.u16; omega
          have hV16 : (V : Int) < 16 := by have := HRK.out.v16; omega
          have hW256 : (W : Int) < 256 := by have := HRK.out.w256; omega
          have hM16 : (M : Int) < 16 := by have := HRK.out.m16; omega
          go_wp2_with fail
          with_reducible refine (teval_any Cf y _ hy2).mono ?_
          rw [GC.out]
          rintro _ wc ⟨rfl, hFc⟩
          have HFC := Lib.hid (HFB.out.then hFc)
          clear hFc e0 e1 e2 e3
          have v1 := value_n (HT5_s.out.fr HFC.out) n4 hy2
          rw [G1.out] at v1
          have v2 := value_n (HT5_d.out.fr HFC.out) n4 hy2
          rw [G2.out] at v2
          have v3 := value_n (HT5_m.out.fr HFC.out) n4 hy2
          rw [G3.out] at v3
          have v4 := value_n (HT5_i.out.fr HFC.out) n4 hy2
          rw [G4.out] at v4
          have V1 := Lib.hid v1
          have V2 := Lib.hid v2
          have V3 := Lib.hid v3
          have V4 := Lib.hid v4
          have ft := HFT.out.fr HFC.out
          obtain ⟨q0, q1, q2, q3⟩ := ft.at hy2
          rw [GO.out] at q0
          rw [GUU.out] at q1 q2
          rw [GE.out] at q3
          rw [HRK.out.o] at q0
          rw [HRK.out.u] at q1 q2
          rw [HRK.out.e] at q3
          have r0 := ft.c0
          have r1 := ft.c1
          have r2 := ft.c2
          have r3 := ft.c3
          have hadd := HRK.out.add
          have hsub := HRK.out.sub
          have hmul := HRK.out.mul
          have hw := HRK.out.w
          have hite := HRK.out.ite
          clear v1 v2 v3 v4 ft
          cases c
          all_goals
            simp at hite
            subst hite
            go_wp2_with fail
            refine V1.out.mono ?_
            rintro _ _ ⟨rfl, rfl⟩
            go_wp2_with fail
            refine V2.out.mono ?_
            rintro _ _ ⟨rfl, rfl⟩
            go_wp2_with fail
            refine V3.out.mono ?_
            rintro _ _ ⟨rfl, rfl⟩
            go_wp2_with fail
            refine V4.out.mono ?_
            rintro _ _ ⟨rfl, rfl⟩
            go_wp2
            go_roundg (256 - (y + 1))
            case measure => omega
            case rel => exact ⟨y + 1, by omega, rfl, by go_num, HFC.out⟩
        · have e : y = 256 := by omega
          subst e
          have hbel := (HR15.out.ses.fr.then (HF5.out.then hFi)).below (Nat.le_refl _) (by simp)
          have HBEL := Lib.hid hbel
          clear hbel hFi
          go_wp2
          go_ret
          exact ⟨rfl, HBEL.out⟩
end Go.Proofs.YtiojnjihbidbiaaGreat
