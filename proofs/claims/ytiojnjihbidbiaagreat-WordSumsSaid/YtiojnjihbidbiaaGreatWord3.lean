/- word, walked: gates, and what is made of them. -/
import Derived.Test.YtiojnjihbidbiaaGreatWord2
namespace Go.Proofs.YtiojnjihbidbiaaGreat
open Go.RowKit
attribute [local go_sem ↓] Go.wp_at_zero Go.wp_at_succ
set_option linter.unusedVariables false

theorem Fr.same {O : List Nat} {w w' : World} {g : Nat} {cs : Array Value} {t : TypeId} (f : Fr (g :: O) w w') (h : Blk w g cs t) (h' : Blk w' g cs t) : Fr O w w' :=
  ⟨f.os, f.tape, f.output, f.size, fun k hk hn => by
    by_cases e : k = g
    · subst e; rw [show w'.heap[k]? = _ from h', show w.heap[k]? = _ from h]
    · exact f.block k hk (by simp [e, hn])⟩

section
variable {w w' : World} {s n room : Nat} {off : Bool} {B : List Nat} {L : List Bdd.Nd}

/-- What a circuit answers: a handle that tells F; at most c nodes more above level 5. -/
def GPost (s n room : Nat) (off : Bool) (B : List Nat) (L : List Bdd.Nd) (w : World) (c : Nat) (F : (Nat → Bool) → Bool) (e : Ending) (w' : World) : Prop :=
  ∃ (h : Nat) (B' : List Nat) (L' : List Bdd.Nd), e = .returned (.int .u32 (h : Int)) ∧ Evo s n room off B L w B' L' w' c ∧ Den n L' h F

/-- A gate's block beside a store. -/
structure GAt (w : World) (g s : Nat) (B : List Nat) (n room : Nat) (off : Bool) (L : List Bdd.Nd) : Prop where
  blk : Blk w g #[.pointer (some ⟨s, 0, none⟩), .int .i64 0] 145
  sto : Sto w s B n room off L
  apart : g ∉ B

theorem GAt.evo {g c : Nat} {B' : List Nat} {L' : List Bdd.Nd} (h : GAt w g s B n room off L) (e : Evo s n room off B L w B' L' w' c) : GAt w' g s B' n room off L' :=
  ⟨h.blk.fr e.fr h.apart, e.sto, fun hb => by
    rcases e.own g hb with h1 | h1
    · exact h.apart h1
    · have := h.blk.lt; omega⟩

set_option maxHeartbeats 1000000 in
theorem gate_any {g k a b : Nat} {F : (Nat → Bool) → Bool} (h : GAt w g s B n room off L) (hcf : ∀ (args : Array Value) (w : World), (callFunc k args).run Tryz.prog w = .ok (.enter k args) w)
    (hop : Calls Tryz.prog k #[.pointer (some ⟨s, 0, none⟩), .int .u32 (a : Int), .int .u32 (b : Int)] w (FnPost s n room off B L w F)) (hr : Bdd.high L + 31 + 256 < room) :
    Calls Tryz.prog 162 #[.pointer (some ⟨g, 0, none⟩), fnV k, .int .u32 (a : Int), .int .u32 (b : Int)] w (GPost s n room off B L w 31 F) := by
  have c0 := h.blk.cell 0 (v := .pointer (some ⟨s, 0, none⟩)) rfl
  have c1 := h.blk.cell 1 (v := .int .i64 0) rfl
  have H := Lib.hid h
  clear h
  go_enter Tryz.func162, Tryz.ntmps162
  go_wp2_with fail
  refine hop.mono ?_
  intro e w1 hp
  obtain ⟨B1, L1, h1, hev, rfl, hden⟩ := OpPost.ok hp hr
  have hG1 := H.out.evo hev
  have d1 := hG1.blk.cell 1 (v := .int .i64 0) rfl
  have f1 := hG1.blk.free 1
  have F1 : Fr [g] w1 (w1.setCell ⟨g, 1, none⟩ (.int .i64 0)) := (Fr.refl [g] w1).setCell _ (.inl (by simp))
  have F2 : Fr [] w1 (w1.setCell ⟨g, 1, none⟩ (.int .i64 0)) := Fr.same F1 hG1.blk (hG1.blk.set 1 (.int .i64 0))
  have hfin : GPost s n room off B L w 31 F (.returned (.int .u32 (h1 : Int))) (w1.setCell ⟨g, 1, none⟩ (.int .i64 0)) :=
    ⟨h1, B1, L1, rfl, hev.trans ((hev.sto.fr F2 (by simp)).evo F2 (by simp)), hden⟩
  have HF := Lib.hid hfin
  clear hfin hp hev hden hG1 F1 F2
  go_wp2
  go_ret
  exact HF.out

theorem gand_any {g a b : Nat} {F G : (Nat → Bool) → Bool} (h : GAt w g s B n room off L) (da : Den n L a F) (db : Den n L b G) (hr : Bdd.high L + 31 + 256 < room) :
    Calls Tryz.prog 99 #[.pointer (some ⟨g, 0, none⟩), .int .u32 (a : Int), .int .u32 (b : Int)] w (GPost s n room off B L w 31 fun y => (F y && G y)) := by
  go_enter Tryz.func99, Tryz.ntmps99
  go_wp2_with fail
  refine (gate_any h (fun args w => by kernel_rfl) (and_any h.sto da db) hr).mono ?_
  rintro e w1 ⟨x, B1, L1, rfl, hev, hden⟩
  go_wp2
  go_ret
  exact ⟨x, B1, L1, rfl, hev, hden⟩

theorem gor_any {g a b : Nat} {F G : (Nat → Bool) → Bool} (h : GAt w g s B n room off L) (da : Den n L a F) (db : Den n L b G) (hr : Bdd.high L + 31 + 256 < room) :
    Calls Tryz.prog 207 #[.pointer (some ⟨g, 0, none⟩), .int .u32 (a : Int), .int .u32 (b : Int)] w (GPost s n room off B L w 31 fun y => (F y || G y)) := by
  go_enter Tryz.func207, Tryz.ntmps207
  go_wp2_with fail
  refine (gate_any h (fun args w => by kernel_rfl) (or_any h.sto da db) hr).mono ?_
  rintro e w1 ⟨x, B1, L1, rfl, hev, hden⟩
  go_wp2
  go_ret
  exact ⟨x, B1, L1, rfl, hev, hden⟩

theorem gxor_any {g a b : Nat} {F G : (Nat → Bool) → Bool} (h : GAt w g s B n room off L) (da : Den n L a F) (db : Den n L b G) (hr : Bdd.high L + 31 + 256 < room) :
    Calls Tryz.prog 102 #[.pointer (some ⟨g, 0, none⟩), .int .u32 (a : Int), .int .u32 (b : Int)] w (GPost s n room off B L w 31 fun y => (F y ^^ G y)) := by
  go_enter Tryz.func102, Tryz.ntmps102
  go_wp2_with fail
  refine (gate_any h (fun args w => by kernel_rfl) (xor_any h.sto da db) hr).mono ?_
  rintro e w1 ⟨x, B1, L1, rfl, hev, hden⟩
  go_wp2
  go_ret
  exact ⟨x, B1, L1, rfl, hev, hden⟩

theorem gnot_any {g a : Nat} {F : (Nat → Bool) → Bool} (h : GAt w g s B n room off L) (da : Den n L a F) (hr : Bdd.high L + 31 + 256 < room) :
    Calls Tryz.prog 101 #[.pointer (some ⟨g, 0, none⟩), .int .u32 (a : Int)] w (GPost s n room off B L w 31 fun y => !(F y)) := by
  go_enter Tryz.func101, Tryz.ntmps101
  go_wp2_with fail
  refine (gxor_any h Den.one da hr).mono ?_
  rintro e w1 ⟨x, B1, L1, rfl, hev, hden⟩
  go_wp2
  go_ret
  exact ⟨x, B1, L1, rfl, hev, hden.fn fun y => by simp⟩

/-- A circuit's call goes on from where another one ended. -/
theorem GPost.after {c c1 c2 : Nat} {F : (Nat → Bool) → Bool} {B1 : List Nat} {L1 : List Bdd.Nd} {w1 : World} {e : Ending} (h1 : Evo s n room off B L w B1 L1 w1 c1) (h2 : GPost s n room off B1 L1 w1 c2 F e w') (hc : c1 + c2 ≤ c) : GPost s n room off B L w c F e w' := by
  obtain ⟨h, B2, L2, e, hev, hden⟩ := h2
  exact ⟨h, B2, L2, e, (h1.trans hev).mono hc, hden⟩

theorem gtwo_any {g a b c : Nat} {F G H : (Nat → Bool) → Bool} (h : GAt w g s B n room off L) (da : Den n L a F) (db : Den n L b G) (dc : Den n L c H) (hr : Bdd.high L + 124 + 256 < room) :
    Calls Tryz.prog 158 #[.pointer (some ⟨g, 0, none⟩), .int .u32 (a : Int), .int .u32 (b : Int), .int .u32 (c : Int)] w (GPost s n room off B L w 124 fun y => ((F y && G y) || (H y && (F y || G y)))) := by
  go_enter Tryz.func158, Tryz.ntmps158
  go_wp2_with fail
  refine (gand_any h da db (by omega)).mono ?_
  rintro e w1 ⟨x1, B1, L1, rfl, e1, d1⟩
  have h1 := h.evo e1
  have r1 := e1.gr.hi
  go_wp2_with fail
  refine (gor_any h1 (da.more h.sto.wf e1.gr) (db.more h.sto.wf e1.gr) (by omega)).mono ?_
  rintro e w2 ⟨x2, B2, L2, rfl, e2, d2⟩
  have h2 := h1.evo e2
  have r2 := e2.gr.hi
  go_wp2_with fail
  refine (gand_any h2 (dc.more h.sto.wf (e1.trans e2).gr) d2 (by omega)).mono ?_
  rintro e w3 ⟨x3, B3, L3, rfl, e3, d3⟩
  have h3 := h2.evo e3
  have r3 := e3.gr.hi
  go_wp2_with fail
  refine (gor_any h3 (d1.more h1.sto.wf (e2.trans e3).gr) d3 (by omega)).mono ?_
  rintro e w4 ⟨x4, B4, L4, rfl, e4, d4⟩
  go_wp2
  go_ret
  exact ⟨x4, B4, L4, rfl, ((e1.trans e2).trans e3).trans e4, d4⟩

/-- What a full adder (or taker) answers: two handles. -/
def GPost2 (s n room : Nat) (off : Bool) (B : List Nat) (L : List Bdd.Nd) (w : World) (c : Nat) (F G : (Nat → Bool) → Bool) (e : Ending) (w' : World) : Prop :=
  ∃ (h k : Nat) (B' : List Nat) (L' : List Bdd.Nd), e = .returned (.tuple #[.int .u32 (h : Int), .int .u32 (k : Int)]) ∧ Evo s n room off B L w B' L' w' c ∧ Den n L' h F ∧ Den n L' k G

theorem gadder_any {g a b c : Nat} {F G H : (Nat → Bool) → Bool} (h : GAt w g s B n room off L) (da : Den n L a F) (db : Den n L b G) (dc : Den n L c H) (hr : Bdd.high L + 217 + 256 < room) :
    Calls Tryz.prog 90 #[.pointer (some ⟨g, 0, none⟩), .int .u32 (a : Int), .int .u32 (b : Int), .int .u32 (c : Int)] w (GPost2 s n room off B L w 217 (fun y => ((F y ^^ G y) ^^ H y)) fun y => ((F y && G y) || (H y && (F y || G y)))) := by
  go_enter Tryz.func90, Tryz.ntmps90
  go_wp2_with fail
  refine (gxor_any h da db (by omega)).mono ?_
  rintro e w1 ⟨x1, B1, L1, rfl, e1, d1⟩
  have h1 := h.evo e1
  have r1 := e1.gr.hi
  go_wp2_with fail
  refine (gxor_any h1 d1 (dc.more h.sto.wf e1.gr) (by omega)).mono ?_
  rintro e w2 ⟨x2, B2, L2, rfl, e2, d2⟩
  have h2 := h1.evo e2
  have r2 := e2.gr.hi
  have da2 := da.more h.sto.wf (e1.trans e2).gr
  have db2 := db.more h.sto.wf (e1.trans e2).gr
  have dc2 := dc.more h.sto.wf (e1.trans e2).gr
  go_wp2_with fail
  refine (gtwo_any h2 da2 db2 dc2 (by omega)).mono ?_
  rintro e w4 ⟨x4, B4, L4, rfl, e4, d4⟩
  go_wp2
  go_ret2
  exact ⟨x2, x4, B4, L4, rfl, ((e1.trans e2).trans e4).mono (by omega), d2.more h2.sto.wf e4.gr, d4⟩

theorem gtaker_any {g a b c : Nat} {F G H : (Nat → Bool) → Bool} (h : GAt w g s B n room off L) (da : Den n L a F) (db : Den n L b G) (dc : Den n L c H) (hr : Bdd.high L + 217 + 256 < room) :
    Calls Tryz.prog 91 #[.pointer (some ⟨g, 0, none⟩), .int .u32 (a : Int), .int .u32 (b : Int), .int .u32 (c : Int)] w (GPost2 s n room off B L w 217 (fun y => ((F y ^^ G y) ^^ H y)) fun y => ((!(F y) && G y) || (H y && (!(F y) || G y)))) := by
  go_enter Tryz.func91, Tryz.ntmps91
  go_wp2_with fail
  refine (gxor_any h da db (by omega)).mono ?_
  rintro e w1 ⟨x1, B1, L1, rfl, e1, d1⟩
  have h1 := h.evo e1
  have r1 := e1.gr.hi
  go_wp2_with fail
  refine (gxor_any h1 d1 (dc.more h.sto.wf e1.gr) (by omega)).mono ?_
  rintro e w2 ⟨x2, B2, L2, rfl, e2, d2⟩
  have h2 := h1.evo e2
  have r2 := e2.gr.hi
  have da2 := da.more h.sto.wf (e1.trans e2).gr
  have db2 := db.more h.sto.wf (e1.trans e2).gr
  have dc2 := dc.more h.sto.wf (e1.trans e2).gr
  go_wp2_with fail
  refine (gnot_any h2 da2 (by omega)).mono ?_
  rintro e w3 ⟨x3, B3, L3, rfl, e3, d3⟩
  have h3 := h2.evo e3
  have r3 := e3.gr.hi
  go_wp2_with fail
  refine (gtwo_any h3 d3 (db2.more h2.sto.wf e3.gr) (dc2.more h2.sto.wf e3.gr) (by omega)).mono ?_
  rintro e w4 ⟨x4, B4, L4, rfl, e4, d4⟩
  go_wp2
  go_ret2
  exact ⟨x2, x4, B4, L4, rfl, ((e1.trans e2).trans e3).trans e4, d2.more h2.sto.wf (e3.trans e4).gr, d4⟩

end
end Go.Proofs.YtiojnjihbidbiaaGreat
