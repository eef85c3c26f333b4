/- logic, walked: not, and, or, xor, if-then-else, a variable: what each answers. -/
import Derived.Test.YtiojnjihbidbiaaGreatLog4
namespace Go.Proofs.YtiojnjihbidbiaaGreat
open Go.RowKit
attribute [local go_sem ↓] Go.wp_at_zero Go.wp_at_succ
attribute [local go_sem ↓] run_min run_max
set_option linter.unusedVariables false

section
variable {w w' : World} {s n room : Nat} {off : Bool} {B : List Nat} {L : List Bdd.Nd}

theorem does_any {op : Nat} (ho : op = 2 ∨ op = 3 ∨ op = 4 ∨ op = 5) : ∀ (m : Nat) {w : World} {B : List Nat} {L : List Bdd.Nd} {a b c : Nat}, n - lev3 n L a b c ≤ m → Sto w s B n room off L → Bdd.IsNd (Bdd.tab L) a → Bdd.IsNd (Bdd.tab L) b → Bdd.IsNd (Bdd.tab L) c →
    Calls Tryz.prog 165 #[walkV s op (opK op), args3 a b c] w (DoesPost s n room off B L w op a b c)
  | 0, w, B, L, a, b, c, hm, h, ha, hb, hc => does_step h ho ha hb hc (fun w1 B1 L1 a1 b1 c1 h1 _ _ _ hlt => by
      have := Bdd.lev_le h1.wf a1
      have : lev3 n L1 a1 b1 c1 ≤ n := by unfold lev3; omega
      omega)
  | m + 1, w, B, L, a, b, c, hm, h, ha, hb, hc => does_step h ho ha hb hc (fun w1 B1 L1 a1 b1 c1 h1 ha1 hb1 hc1 hlt => does_any ho m (by
      have := Bdd.lev_le h1.wf a1
      have : lev3 n L1 a1 b1 c1 ≤ n := by unfold lev3; omega
      omega) h1 ha1 hb1 hc1)

set_option maxHeartbeats 1000000 in
set_option maxRecDepth 4000 in
theorem run_any (h : Sto w s B n room off L) {op a b c : Nat} (ho : op = 2 ∨ op = 3 ∨ op = 4 ∨ op = 5) (ha : Bdd.IsNd (Bdd.tab L) a) (hb : Bdd.IsNd (Bdd.tab L) b) (hc : Bdd.IsNd (Bdd.tab L) c) :
    Calls Tryz.prog 104 #[.pointer (some ⟨s, 0, none⟩), .int .u8 (op : Int), fnV (opK op), args3 a b c] w (DoesPost s n room off B L w op a b c) := by
  have i0 := idx0 a b c
  have i1 := idx1 a b c
  have i2 := idx2 a b c
  go_enter Tryz.func104, Tryz.ntmps104
  go_wp2_with fail
  refine wp_loop_rounds 4 ?_
  rw [rounds_succ]
  go_wp2_with fail
  refine (sto_isNd (h.fr ((Fr.refl [] w).alloc _) (by simp)) ha).mono ?_
  rintro e w' ⟨rfl, rfl⟩
  go_wp2_with fail
  rw [rounds_succ]
  go_wp2_with fail
  refine (sto_isNd (h.fr ((Fr.refl [] w).alloc _) (by simp)) hb).mono ?_
  rintro e w' ⟨rfl, rfl⟩
  go_wp2_with fail
  rw [rounds_succ]
  go_wp2_with fail
  refine (sto_isNd (h.fr ((Fr.refl [] w).alloc _) (by simp)) hc).mono ?_
  rintro e w' ⟨rfl, rfl⟩
  go_wp2_with fail
  rw [rounds_succ]
  go_wp2_with fail
  refine (does_any ho _ (Nat.le_refl _) (h.fr ((Fr.refl [] w).alloc _) (by simp)) ha hb hc).mono ?_
  intro e w' hp
  have hq := OpPost.after ((h.fr ((Fr.refl [] w).alloc _) (by simp)).evo ((Fr.refl [] w).alloc _) (by simp)) hp (Nat.le_of_eq (Nat.zero_add _))
  obtain ⟨x, y, rfl⟩ := OpPost.form hp
  have HQ := Lib.hid hq
  clear hq hp
  go_wp2
  go_ret2
  exact HQ.out

/-- h tells the function F. -/
def Den (n : Nat) (L : List Bdd.Nd) (h : Nat) (F : (Nat → Bool) → Bool) : Prop := Bdd.IsNd (Bdd.tab L) h ∧ ∀ y, Bdd.D n (Bdd.tab L) h y = F y

theorem Den.more {c h : Nat} {L' : List Bdd.Nd} {F : (Nat → Bool) → Bool} (d : Den n L h F) (hw : Bdd.Wf n (Bdd.tab L)) (g : Bdd.Gr n L L' c) : Den n L' h F := ⟨g.isNd d.1, fun y => by rw [g.D hw d.1]; exact d.2 y⟩
theorem Den.zero : Den n L 0 fun _ => false := ⟨Bdd.IsNd.zero _, fun y => by simp [Bdd.D_zero]⟩
theorem Den.one : Den n L 1 fun _ => true := ⟨Bdd.IsNd.one _, fun y => by simp [Bdd.D_one]⟩
theorem Den.eq {h k : Nat} {F G : (Nat → Bool) → Bool} (d : Den n L h F) (e : Den n L k G) (hw : Bdd.Wf n (Bdd.tab L)) (hf : ∀ y, F y = G y) : h = k := Bdd.eq_of_D hw d.1 e.1 fun y => by rw [d.2, e.2, hf]
theorem Den.fn {h : Nat} {F G : (Nat → Bool) → Bool} (d : Den n L h F) (hf : ∀ y, F y = G y) : Den n L h G := ⟨d.1, fun y => by rw [d.2, hf]⟩

/-- The answer of an operation that makes F. -/
abbrev FnPost (s n room : Nat) (off : Bool) (B : List Nat) (L : List Bdd.Nd) (w : World) (F : (Nat → Bool) → Bool) : Ending → World → Prop :=
  OpPost s n room off B L w 31 (fun L' h => Den n L' h F)

theorem OpPost.mono {c c' : Nat} {P Q : List Bdd.Nd → Nat → Prop} {e : Ending} (h : OpPost s n room off B L w c P e w') (hc : c ≤ c') (hp : ∀ L' c h, Bdd.Gr n L L' c → P L' h → Q L' h) : OpPost s n room off B L w c' Q e w' := by
  obtain ⟨B1, L1, hev, hr⟩ := h
  exact ⟨B1, L1, hev.mono hc, hr.imp id (fun ⟨h, e, hh⟩ => ⟨h, e, hp _ _ _ hev.gr hh⟩)⟩

/-- Where there is room it is not full. -/
theorem OpPost.ok {c : Nat} {P : List Bdd.Nd → Nat → Prop} {e : Ending} (h : OpPost s n room off B L w c P e w') (hr : Bdd.high L + c + 256 < room) : ∃ B' L' h, Evo s n room off B L w B' L' w' c ∧ e = ansH h 0 ∧ P L' h := by
  obtain ⟨B1, L1, hev, ⟨_, hf⟩ | ⟨h, e, hp⟩⟩ := h
  · have h1 := Bdd.length_le hev.gr.wf hev.sto.vars.2
    have h2 := hev.gr.hi
    omega
  · exact ⟨B1, L1, h, hev, e, hp⟩

theorem DoesPost.fn {op a b c : Nat} {F G H : (Nat → Bool) → Bool} {e : Ending} (hw : Bdd.Wf n (Bdd.tab L)) (da : Den n L a F) (db : Den n L b G) (dc : Den n L c H) (h : DoesPost s n room off B L w op a b c e w') : FnPost s n room off B L w (fun y => Bdd.opf op (F y) (G y) (H y)) e w' :=
  OpPost.mono h (Bdd.cb_le _) fun L' c' k g hk => ⟨hk.1, fun y => by rw [hk.2, g.D hw da.1, g.D hw db.1, g.D hw dc.1, da.2, db.2, dc.2]⟩

theorem min_max {P : Nat → Nat → Prop} (a b : Nat) (h1 : P a b) (h2 : P b a) : P (min a b) (max a b) := by
  rcases Nat.le_total a b with h | h
  · rw [Nat.min_eq_left h, Nat.max_eq_right h]; exact h1
  · rw [Nat.min_eq_right h, Nat.max_eq_left h]; exact h2

set_option maxRecDepth 4000 in
theorem and_any (h : Sto w s B n room off L) {a b : Nat} {F G : (Nat → Bool) → Bool} (da : Den n L a F) (db : Den n L b G) :
    Calls Tryz.prog 37 #[.pointer (some ⟨s, 0, none⟩), .int .u32 (a : Int), .int .u32 (b : Int)] w (FnPost s n room off B L w fun y => (F y && G y)) := by
  have key : Calls Tryz.prog 104 #[.pointer (some ⟨s, 0, none⟩), .int .u8 2, fnV 106, .agg #[.int .u32 ((min a b : Nat) : Int), .int .u32 ((max a b : Nat) : Int), .int .u32 0]] w (FnPost s n room off B L w fun y => (F y && G y)) := by
    refine min_max (P := fun x z => Calls Tryz.prog 104 #[.pointer (some ⟨s, 0, none⟩), .int .u8 2, fnV 106, .agg #[.int .u32 ((x : Nat) : Int), .int .u32 ((z : Nat) : Int), .int .u32 0]] w (FnPost s n room off B L w fun y => (F y && G y))) a b ?_ ?_
    · exact (run_any h (op := 2) (by omega) da.1 db.1 (Den.zero (n := n)).1).mono fun e w' hp => DoesPost.fn h.wf da db Den.zero hp
    · exact (run_any h (op := 2) (by omega) db.1 da.1 (Den.zero (n := n)).1).mono fun e w' hp => OpPost.mono (DoesPost.fn h.wf db da Den.zero hp) (Nat.le_refl _) fun _ _ _ _ hk => hk.fn fun y => by simp [Bdd.opf, Bool.and_comm]
  go_enter Tryz.func37, Tryz.ntmps37
  go_wp2_with fail
  refine key.mono ?_
  intro e w' hp
  obtain ⟨x, y, rfl⟩ := OpPost.form hp
  have HQ := Lib.hid hp
  clear hp key
  go_wp2
  go_ret2
  exact HQ.out

set_option maxRecDepth 4000 in
theorem or_any (h : Sto w s B n room off L) {a b : Nat} {F G : (Nat → Bool) → Bool} (da : Den n L a F) (db : Den n L b G) :
    Calls Tryz.prog 36 #[.pointer (some ⟨s, 0, none⟩), .int .u32 (a : Int), .int .u32 (b : Int)] w (FnPost s n room off B L w fun y => (F y || G y)) := by
  have key : Calls Tryz.prog 104 #[.pointer (some ⟨s, 0, none⟩), .int .u8 3, fnV 105, .agg #[.int .u32 ((min a b : Nat) : Int), .int .u32 ((max a b : Nat) : Int), .int .u32 0]] w (FnPost s n room off B L w fun y => (F y || G y)) := by
    refine min_max (P := fun x z => Calls Tryz.prog 104 #[.pointer (some ⟨s, 0, none⟩), .int .u8 3, fnV 105, .agg #[.int .u32 ((x : Nat) : Int), .int .u32 ((z : Nat) : Int), .int .u32 0]] w (FnPost s n room off B L w fun y => (F y || G y))) a b ?_ ?_
    · exact (run_any h (op := 3) (by omega) da.1 db.1 (Den.zero (n := n)).1).mono fun e w' hp => DoesPost.fn h.wf da db Den.zero hp
    · exact (run_any h (op := 3) (by omega) db.1 da.1 (Den.zero (n := n)).1).mono fun e w' hp => OpPost.mono (DoesPost.fn h.wf db da Den.zero hp) (Nat.le_refl _) fun _ _ _ _ hk => hk.fn fun y => by simp [Bdd.opf, Bool.or_comm]
  go_enter Tryz.func36, Tryz.ntmps36
  go_wp2_with fail
  refine key.mono ?_
  intro e w' hp
  obtain ⟨x, y, rfl⟩ := OpPost.form hp
  have HQ := Lib.hid hp
  clear hp key
  go_wp2
  go_ret2
  exact HQ.out

set_option maxRecDepth 4000 in
theorem xor_any (h : Sto w s B n room off L) {a b : Nat} {F G : (Nat → Bool) → Bool} (da : Den n L a F) (db : Den n L b G) :
    Calls Tryz.prog 163 #[.pointer (some ⟨s, 0, none⟩), .int .u32 (a : Int), .int .u32 (b : Int)] w (FnPost s n room off B L w fun y => (F y ^^ G y)) := by
  have key : Calls Tryz.prog 104 #[.pointer (some ⟨s, 0, none⟩), .int .u8 4, fnV 150, .agg #[.int .u32 ((min a b : Nat) : Int), .int .u32 ((max a b : Nat) : Int), .int .u32 0]] w (FnPost s n room off B L w fun y => (F y ^^ G y)) := by
    refine min_max (P := fun x z => Calls Tryz.prog 104 #[.pointer (some ⟨s, 0, none⟩), .int .u8 4, fnV 150, .agg #[.int .u32 ((x : Nat) : Int), .int .u32 ((z : Nat) : Int), .int .u32 0]] w (FnPost s n room off B L w fun y => (F y ^^ G y))) a b ?_ ?_
    · exact (run_any h (op := 4) (by omega) da.1 db.1 (Den.zero (n := n)).1).mono fun e w' hp => DoesPost.fn h.wf da db Den.zero hp
    · exact (run_any h (op := 4) (by omega) db.1 da.1 (Den.zero (n := n)).1).mono fun e w' hp => OpPost.mono (DoesPost.fn h.wf db da Den.zero hp) (Nat.le_refl _) fun _ _ _ _ hk => hk.fn fun y => by simp [Bdd.opf, Bool.xor_comm]
  go_enter Tryz.func163, Tryz.ntmps163
  go_wp2_with fail
  refine key.mono ?_
  intro e w' hp
  obtain ⟨x, y, rfl⟩ := OpPost.form hp
  have HQ := Lib.hid hp
  clear hp key
  go_wp2
  go_ret2
  exact HQ.out

set_option maxRecDepth 4000 in
theorem not_any (h : Sto w s B n room off L) {a : Nat} {F : (Nat → Bool) → Bool} (da : Den n L a F) :
    Calls Tryz.prog 81 #[.pointer (some ⟨s, 0, none⟩), .int .u32 (a : Int)] w (FnPost s n room off B L w fun y => !(F y)) := by
  have key : Calls Tryz.prog 104 #[.pointer (some ⟨s, 0, none⟩), .int .u8 4, fnV 150, .agg #[.int .u32 1, .int .u32 (a : Int), .int .u32 0]] w (FnPost s n room off B L w fun y => !(F y)) :=
    (run_any h (op := 4) (by omega) (Den.one (n := n)).1 da.1 (Den.zero (n := n)).1).mono fun e w' hp => OpPost.mono (DoesPost.fn h.wf Den.one da Den.zero hp) (Nat.le_refl _) fun _ _ _ _ hk => hk.fn fun y => by simp [Bdd.opf]
  go_enter Tryz.func81, Tryz.ntmps81
  go_wp2_with fail
  refine key.mono ?_
  intro e w' hp
  obtain ⟨x, y, rfl⟩ := OpPost.form hp
  have HQ := Lib.hid hp
  clear hp key
  go_wp2
  go_ret2
  exact HQ.out

set_option maxRecDepth 4000 in
theorem ite_any (h : Sto w s B n room off L) {a b c : Nat} {F G H : (Nat → Bool) → Bool} (da : Den n L a F) (db : Den n L b G) (dc : Den n L c H) :
    Calls Tryz.prog 103 #[.pointer (some ⟨s, 0, none⟩), .int .u32 (a : Int), .int .u32 (b : Int), .int .u32 (c : Int)] w (FnPost s n room off B L w fun y => if F y then G y else H y) := by
  have key : Calls Tryz.prog 104 #[.pointer (some ⟨s, 0, none⟩), .int .u8 5, fnV 164, args3 a b c] w (FnPost s n room off B L w fun y => if F y then G y else H y) :=
    (run_any h (op := 5) (by omega) da.1 db.1 dc.1).mono fun e w' hp => DoesPost.fn h.wf da db dc hp
  go_enter Tryz.func103, Tryz.ntmps103
  go_wp2_with fail
  refine key.mono ?_
  intro e w' hp
  obtain ⟨x, y, rfl⟩ := OpPost.form hp
  have HQ := Lib.hid hp
  clear hp key
  go_wp2
  go_ret2
  exact HQ.out

end
end Go.Proofs.YtiojnjihbidbiaaGreat
