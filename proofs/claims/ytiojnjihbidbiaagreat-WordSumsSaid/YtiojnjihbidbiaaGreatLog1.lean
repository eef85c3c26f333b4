/- Words on a store whose parts nobody asks for: its functions' contracts, each over 'Sto'. -/
import Derived.Test.YtiojnjihbidbiaaGreatMk2
import Derived.Test.YtiojnjihbidbiaaGreatCache5
import Derived.Test.YtiojnjihbidbiaaGreatCache6
namespace Go.Proofs.YtiojnjihbidbiaaGreat
open Go.RowKit
attribute [local go_sem ↓] Go.wp_at_zero Go.wp_at_succ
set_option linter.unusedVariables false

section
variable {w w' : World} {s n room : Nat} {off : Bool} {B : List Nat} {L : List Bdd.Nd}

theorem Sto.gr (h : Sto w s B n room off L) : Bdd.Gr n L L 0 := Bdd.Gr.refl h.wf

theorem sto_vars (h : Sto w s B n room off L) :
    Calls Tryz.prog 118 #[.pointer (some ⟨s, 0, none⟩)] w fun e w' => e = .returned (.int .i64 (n : Int)) ∧ w = w' := by
  obtain ⟨y, K, C, sl, rfl, hs⟩ := h; exact vars_any hs

theorem sto_is (h : Sto w s B n room off L) (hd : Int) (h0 : 0 ≤ hd) (h1 : hd < 4294967296) :
    Calls Tryz.prog 31 #[.pointer (some ⟨s, 0, none⟩), .int .u32 hd] w fun e w' => e = .returned (.bool (decide (hd < (L.length : Int) + 2))) ∧ w = w' := by
  obtain ⟨y, K, C, sl, rfl, hs⟩ := h; exact is_any hs hd h0 h1

theorem sto_isNd (h : Sto w s B n room off L) {k : Nat} (hk : Bdd.IsNd (Bdd.tab L) k) :
    Calls Tryz.prog 31 #[.pointer (some ⟨s, 0, none⟩), .int .u32 (k : Int)] w fun e w' => e = .returned (.bool true) ∧ w = w' := by
  obtain ⟨y, K, C, sl, rfl, hs⟩ := h; exact isNd_is hs hk

theorem sto_level (h : Sto w s B n room off L) {k : Nat} (hk : Bdd.IsNd (Bdd.tab L) k) :
    Calls Tryz.prog 126 #[.pointer (some ⟨s, 0, none⟩), .int .u32 (k : Int)] w fun e w' => e = .returned (.int .i64 (Bdd.lev n (Bdd.tab L) k : Nat)) ∧ w = w' := by
  obtain ⟨y, K, C, sl, rfl, hs⟩ := h; exact level_any hs hk

theorem sto_low (h : Sto w s B n room off L) {k : Nat} {d : Bdd.Nd} (hd : Bdd.tab L k = some d) :
    Calls Tryz.prog 127 #[.pointer (some ⟨s, 0, none⟩), .int .u32 (k : Int)] w fun e w' => e = .returned (.int .u32 (d.lo : Int)) ∧ w = w' := by
  obtain ⟨y, K, C, sl, rfl, hs⟩ := h; exact low_any hs hd

theorem sto_high (h : Sto w s B n room off L) {k : Nat} {d : Bdd.Nd} (hd : Bdd.tab L k = some d) :
    Calls Tryz.prog 128 #[.pointer (some ⟨s, 0, none⟩), .int .u32 (k : Int)] w fun e w' => e = .returned (.int .u32 (d.hi : Int)) ∧ w = w' := by
  obtain ⟨y, K, C, sl, rfl, hs⟩ := h; exact high_any hs hd

theorem sto_mk (h : Sto w s B n room off L) (lv lo hi : Nat) (hl : lv < n) (hlo : Bdd.IsNd (Bdd.tab L) lo) (hhi : Bdd.IsNd (Bdd.tab L) hi) (llo : lv < Bdd.lev n (Bdd.tab L) lo) (lhi : lv < Bdd.lev n (Bdd.tab L) hi) :
    Calls Tryz.prog 119 #[.pointer (some ⟨s, 0, none⟩), .int .i64 (lv : Int), .int .u32 (lo : Int), .int .u32 (hi : Int)] w
      (OpPost s n room off B L w (mkc lv) (MkIs n lv lo hi L)) := by
  obtain ⟨y, K, C, sl, rfl, hs⟩ := h; exact mk_store hs lv lo hi hl hlo hhi llo lhi

theorem Sto.evo (h : Sto w' s B n room off L) {O : List Nat} (hF : Fr O w w') (hO : ∀ k ∈ O, k ∈ B ∨ w.heap.size ≤ k) : Evo s n room off B L w B L w' 0 :=
  ⟨h, hF.mono hO, fun _ hk => .inl hk, h.gr⟩

theorem Sto.nd_lt (h : Sto w s B n room off L) {k : Nat} (hk : Bdd.IsNd (Bdd.tab L) k) : k < 32770 := by
  have := Bdd.isNd_tab.1 hk
  have := h.len
  omega

theorem StoreAt.cached {O : List Nat} {y : Lay} {K C C' : List Nat} {sl : Nat → Option Nat} (h : StoreAt w s y n room off L K C sl) (f : Fr O w w') (hO : ∀ k ∈ O, k = y.cm ∨ k = y.cc) (hT : CacheAt w' y.cac y.cm y.cc C') (hI : Bdd.CacheInv n L 256 C') (hV : ∀ l, l < 256 → K0 C' (3 * l) < 2 ^ 64) :
    StoreAt w' s y n room off L K C' sl := by
  have key : ∀ k, k ≠ y.cm → k ≠ y.cc → k ∉ O := fun k h1 h2 hk => (hO k hk).elim h1 h2
  have K1 : ∀ i k, (y.blocks s)[i]? = some k → i ≠ 7 → i ≠ 8 → k ∉ O := fun i k hi h3 h4 => key k (nodup_get h.apart hi (j := 7) rfl h3) (nodup_get h.apart hi (j := 8) rfl h4)
  have own : ∀ k, y.nv.ownBlock = some k → k ∉ O := fun k hk => K1 9 k (by simp [Lay.blocks, hk]) (by omega) (by omega)
  exact ⟨h.head.fr f (K1 0 _ rfl (by omega) (by omega)), h.ord.fr f (K1 1 _ rfl (by omega) (by omega)), h.nodes.fr f own, h.table.fr f (K1 2 _ rfl (by omega) (by omega)) (K1 3 _ rfl (by omega) (by omega)) (K1 4 _ rfl (by omega) (by omega)),
    h.slots.fr f (K1 5 _ rfl (by omega) (by omega)), hT, h.apart,
    fun k hk => by have := h.inside k hk; have := f.size; omega, h.vars, h.rooms, h.len, h.half, h.big, h.wf, h.tinv, hI, hV⟩

/-- What 'Recall' answers. -/
def RecPost (s n room : Nat) (off : Bool) (B : List Nat) (L : List Bdd.Nd) (w : World) (op a b c : Nat) (e : Ending) (w' : World) : Prop :=
  Evo s n room off B L w B L w' 0 ∧ (e = .returned (.tuple #[.int .u32 0, .bool false]) ∨ ∃ v : Nat, e = .returned (.tuple #[.int .u32 (v : Int), .bool true]) ∧ Bdd.Is n (Bdd.tab L) op a b c v)

theorem sto_recall (h : Sto w s B n room off L) {op a b c : Nat} (ho : op < 256) (ha : Bdd.IsNd (Bdd.tab L) a) (hb : Bdd.IsNd (Bdd.tab L) b) (hc : Bdd.IsNd (Bdd.tab L) c) :
    Calls Tryz.prog 209 #[.pointer (some ⟨s, 0, none⟩), .int .u8 (op : Int), .int .u8 0, .int .u32 (a : Int), .int .u32 (b : Int), .int .u32 (c : Int)] w (RecPost s n room off B L w op a b c) := by
  have la := h.nd_lt ha
  have lb := h.nd_lt hb
  have lc := h.nd_lt hc
  obtain ⟨y, K, C, sl, rfl, hs⟩ := h
  have hL : L.length ≤ 32768 := Nat.le_trans hs.len hs.rooms.2
  cases off with
  | true =>
    refine (recall_off s _ _ _ _ _ w (hs.head.cell 7 rfl)).mono ?_
    rintro e w' ⟨rfl, rfl⟩
    exact ⟨hs.evo (Fr.refl [] w) (by simp), .inl rfl⟩
  | false =>
    have hk := homeF_lt (show 0 < 256 by omega) (Bdd.wordN op 0 a b c)
    have ent : K0 C (3 * homeF 256 (Bdd.wordN op 0 a b c)) % 4 = 2 → K0 C (3 * homeF 256 (Bdd.wordN op 0 a b c) + 1) = Bdd.wordN op 0 a b c → Bdd.Is n (Bdd.tab L) op a b c (K0 C (3 * homeF 256 (Bdd.wordN op 0 a b c) + 2)) := fun e1 e2 => by
      have := hs.cinv.true_ _ hk e1
      rw [show C.getD (3 * homeF 256 (Bdd.wordN op 0 a b c) + 1) 0 = Bdd.wordN op 0 a b c from e2] at this
      exact this.is hL ha hb hc
    have hr := recall_on s y.cac y.cm y.cc C op 0 a b c w (hs.head.cell 7 rfl) (hs.head.cell 6 rfl) hs.cache ho (by omega) (by omega) (by omega) (by omega) (hs.vers _ hk) (fun e1 e2 => by
      have := Bdd.isNd_tab.1 (ent e1 e2).1
      omega)
    refine hr.mono ?_
    rintro e w' ⟨hC, hF, hr⟩
    have hO : ∀ k ∈ [y.cm], k = y.cm ∨ k = y.cc := fun k hk => by simp only [List.mem_singleton] at hk; exact .inl hk
    refine ⟨(hs.cached hF hO hC hs.cinv hs.vers).evo hF (fun k hk => by simp only [List.mem_singleton] at hk; subst hk; exact StoreAt.memOf 7 rfl), ?_⟩
    rcases hr with hr | ⟨hr, e1, e2⟩
    · exact .inl hr
    · exact .inr ⟨_, hr, ent e1 e2⟩

theorem sto_note (h : Sto w s B n room off L) {op a b c v : Nat} (ho : op = 2 ∨ op = 3 ∨ op = 4 ∨ op = 5) (ha : Bdd.IsNd (Bdd.tab L) a) (hb : Bdd.IsNd (Bdd.tab L) b) (hc : Bdd.IsNd (Bdd.tab L) c) (hv : Bdd.Is n (Bdd.tab L) op a b c v) :
    Calls Tryz.prog 211 #[.pointer (some ⟨s, 0, none⟩), .int .u8 (op : Int), .int .u8 0, .int .u32 (a : Int), .int .u32 (b : Int), .int .u32 (c : Int), .int .u32 (v : Int)] w fun e w' => e = .returned (.tuple #[]) ∧ Evo s n room off B L w B L w' 0 := by
  have la := h.nd_lt ha
  have lb := h.nd_lt hb
  have lc := h.nd_lt hc
  have lv := h.nd_lt hv.1
  obtain ⟨y, K, C, sl, rfl, hs⟩ := h
  cases off with
  | true =>
    refine (note_off s _ _ _ _ _ _ w (hs.head.cell 7 rfl)).mono ?_
    rintro e w' ⟨rfl, rfl⟩
    exact ⟨rfl, hs.evo (Fr.refl [] w) (by simp)⟩
  | false =>
    have hk := homeF_lt (show 0 < 256 by omega) (Bdd.wordN op 0 a b c)
    have hev := hs.cinv.even _ hk
    have hr := note_on s y.cac y.cm y.cc C op 0 a b c v w (hs.head.cell 7 rfl) (hs.head.cell 6 rfl) hs.cache (by omega) (by omega) (by omega) (by omega) (by omega) (by omega) (hs.vers _ hk) hev
    refine hr.mono ?_
    rintro e w' ⟨rfl, hC, hF⟩
    have hO : ∀ k ∈ [y.cm, y.cc], k = y.cm ∨ k = y.cc := fun k hk => by simpa using hk
    have hlen := hs.cinv.len
    have hvm := verF_mod (K0 C (3 * homeF 256 (Bdd.wordN op 0 a b c))) hev
    generalize homeF 256 (Bdd.wordN op 0 a b c) = l at *
    have hput := hs.cinv.put hk hvm.1 (k := Bdd.wordN op 0 a b c) (v := v) ⟨op, a, b, c, ho, rfl, ha, hb, hc, hv⟩
    rw [noted_eq (by omega)] at hC
    have hvers : ∀ l', l' < 256 → K0 (Bdd.putLine C l (verF (K0 C (3 * l))) (Bdd.wordN op 0 a b c) v) (3 * l') < 2 ^ 64 := fun l' hl' => by
      unfold Bdd.putLine
      rw [K0_set _ _ _ _ (by simp; omega)]
      split
      · exact hvm.2
      · rw [K0_set _ _ _ _ (by simp; omega), if_neg (by omega), K0_set _ _ _ _ (by omega), if_neg (by omega)]; exact hs.vers l' hl'
    refine ⟨rfl, (hs.cached hF hO hC hput hvers).evo hF (fun k hk => ?_)⟩
    rcases hO k hk with e | e
    · subst e; exact StoreAt.memOf 7 rfl
    · subst e; exact StoreAt.memOf 8 rfl

end
end Go.Proofs.YtiojnjihbidbiaaGreat
