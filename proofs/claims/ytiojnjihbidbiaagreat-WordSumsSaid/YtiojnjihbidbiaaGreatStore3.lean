/- A store's table asked, walked: 'has' tells the node of a key, or that there is none. -/
import Derived.Test.YtiojnjihbidbiaaGreatStore2
namespace Go.Proofs.YtiojnjihbidbiaaGreat
open Go.RowKit
attribute [local go_sem ↓] Go.wp_at_zero Go.wp_at_succ
set_option linter.unusedVariables false

theorem tat_at (t m cb : Nat) (K : List Nat) (s : Int) (i : Nat) (w : World) (h : TableAt w t m cb K) (h0 : s = (i : Int)) (h1 : i < K.length) :
    Calls Tryz.prog 217 #[.pointer (some ⟨t, 0, none⟩), .int .i64 s] w fun e w' => e = .returned (.int .u64 (K0 K i : Nat)) ∧ TableAt w' t m cb K ∧ Fr [m] w w' := by
  subst h0
  exact tat_any t m cb K i w h (by omega) (by omega)

theorem nodup_get {l : List Nat} (h : l.Nodup) {i j a b : Nat} (ha : l[i]? = some a) (hb : l[j]? = some b) (hij : i ≠ j) : a ≠ b := by
  intro e
  subst e
  exact hij ((List.getElem?_inj (List.getElem?_eq_some_iff.1 ha).1 h).1 (ha.trans hb.symm))

section
variable {w w' : World} {s : Nat} {y : Lay} {n room : Nat} {off : Bool} {L : List Bdd.Nd} {K C : List Nat} {sl : Nat → Option Nat}

/-- The table's own blocks have been touched; it is what it was. -/
theorem StoreAt.touched {O : List Nat} (h : StoreAt w s y n room off L K C sl) (f : Fr O w w') (hO : ∀ k ∈ O, k = y.tm ∨ k = y.tc) (hT : TableAt w' y.tab y.tm y.tc K) : StoreAt w' s y n room off L K C sl := by
  have key : ∀ k, k ≠ y.tm → k ≠ y.tc → k ∉ O := fun k h1 h2 hk => (hO k hk).elim h1 h2
  have K1 : ∀ i k, (y.blocks s)[i]? = some k → i ≠ 3 → i ≠ 4 → k ∉ O := fun i k hi h3 h4 => key k (nodup_get h.apart hi (j := 3) rfl h3) (nodup_get h.apart hi (j := 4) rfl h4)
  have own : ∀ k, y.nv.ownBlock = some k → k ∉ O := fun k hk => K1 9 k (by simp [Lay.blocks, hk]) (by omega) (by omega)
  exact ⟨h.head.fr f (K1 0 _ rfl (by omega) (by omega)), h.ord.fr f (K1 1 _ rfl (by omega) (by omega)), h.nodes.fr f own, hT,
    h.slots.fr f (K1 5 _ rfl (by omega) (by omega)), h.cache.fr f (K1 6 _ rfl (by omega) (by omega)) (K1 7 _ rfl (by omega) (by omega)) (K1 8 _ rfl (by omega) (by omega)), h.apart,
    fun k hk => by have := h.inside k hk; have := f.size; omega, h.vars, h.rooms, h.len, h.half, h.big, h.wf, h.tinv, h.cinv, h.vers⟩

theorem zero_u32 (w : World) : (zeroValue 28).run Tryz.prog w = .ok (.int .u32 0) w := by kernel_rfl

theorem StoreAt.look (h : StoreAt w s y n room off L K C sl) {slot i : Nat} (hs : sl slot = some i) {x : Int} (hx : x = (slot : Int)) :
    (Instr.lookup 131 (.map (some y.slo)) (.int .i64 x) false).run Tryz.prog w = .ok (.int .u32 (i : Int)) w := by
  have := run_lookup_plain (P := Tryz.prog) Tryz.underlying131 (by kernel_rfl) h.slots (zero_u32 w) x
  rw [this, hx]
  simp [slf, hs]

/-- Before round j of 'has': no slot so far is empty or holds the key. -/
def HasRel (s : Nat) (y : Lay) (n room : Nat) (off : Bool) (L : List Bdd.Nd) (K C : List Nat) (sl : Nat → Option Nat) (key : Nat) (w0 : World) (j : Nat) (wr : World) : Prop :=
  StoreAt wr s y n room off L K C sl ∧ Fr [y.tm] w0 wr ∧ ∀ i, i < j → K0 K ((homeF K.length key + i) % K.length) ≠ 0 ∧ K0 K ((homeF K.length key + i) % K.length) ≠ key

theorem HasRel.next {s : Nat} {y : Lay} {n room : Nat} {off : Bool} {L : List Bdd.Nd} {K C : List Nat} {sl : Nat → Option Nat} {key j : Nat} {w0 wr w2 : World} (h : HasRel s y n room off L K C sl key w0 j wr)
    (hT : TableAt w2 y.tab y.tm y.tc K) (hF : Fr [y.tm] wr w2) (h0 : K0 K ((homeF K.length key + j) % K.length) ≠ 0) (h1 : K0 K ((homeF K.length key + j) % K.length) ≠ key) : HasRel s y n room off L K C sl key w0 (j + 1) w2 :=
  ⟨h.1.touched hF (by simp) hT, h.2.1.then hF, fun i hi => by
    by_cases e : i = j
    · subst e; exact ⟨h0, h1⟩
    · exact h.2.2 i (by omega)⟩

/-- What 'has' answers: the handle of the node of this key; or there is none. -/
def HasPost (s : Nat) (y : Lay) (n room : Nat) (off : Bool) (L : List Bdd.Nd) (K C : List Nat) (sl : Nat → Option Nat) (key : Nat) (w0 : World) (e : Ending) (w' : World) : Prop :=
  StoreAt w' s y n room off L K C sl ∧ Fr [y.tm] w0 w' ∧
  ((∃ i d, L[i]? = some d ∧ Bdd.keyN d = key ∧ e = .returned (.tuple #[.int .u32 ((i + 2 : Nat) : Int), .bool true])) ∨
   ((∀ (i : Nat) (d : Bdd.Nd), L[i]? = some d → Bdd.keyN d ≠ key) ∧ e = .returned (.tuple #[.int .u32 0, .bool false])))

set_option maxHeartbeats 1000000 in
theorem has_any (h : StoreAt w s y n room off L K C sl) (key : Nat) (hk : key ≠ 0) :
    Calls Tryz.prog 174 #[.pointer (some ⟨s, 0, none⟩), .int .u64 (key : Int)] w (HasPost s y n room off L K C sl key w) := by
  have hS0 : 1 ≤ K.length := h.table.2.2.2.2.1
  have hbig := h.big
  have c4 := h.head.cell 4 rfl
  have hT := h.table
  have hst : HasRel s y n room off L K C sl key w 0 w := ⟨h, Fr.refl _ _, fun i hi => by omega⟩
  have hhl := homeF_lt (show 0 < K.length by omega) key
  have HT := Lib.hid h.tinv
  clear h
  go_enter Tryz.func174, Tryz.ntmps174
  go_wp2_with fail
  refine (slots_any _ _ _ _ _ hT).mono ?_
  rintro e w1 ⟨rfl, rfl⟩
  go_wp2_with fail
  clear c4 hT
  go_loopg [15] K.length (fun k i wr => ∃ j : Nat, j ≤ K.length ∧ k = K.length - j ∧ i = .int .i64 (j : Int) ∧ HasRel s y n room off L K C sl key w j wr)
  case atStart => exact ⟨0, by omega, by omega, rfl, hst⟩
  case round =>
    obtain ⟨j, hj, hgk, rfl, hr⟩ := hrel
    have c4 := hr.1.head.cell 4 rfl
    have c5 := hr.1.head.cell 5 rfl
    have hT := hr.1.table
    by_cases hlt : j < K.length
    · have hsl : (homeF K.length key + j) % K.length < K.length := Nat.mod_lt _ (by omega)
      have hz : ¬ (K.length : Int) = 0 := by omega
      by_cases e1 : K0 K ((homeF K.length key + j) % K.length) = key
      · have t1 : ((K0 K ((homeF K.length key + j) % K.length) : Int) == (key : Int)) = true := by rw [e1]; simp
        obtain ⟨i, d, hi, hd, hkd, hsi⟩ := HT.out.found hsl hk e1
        have E1 := Lib.hid e1
        have HKD := Lib.hid hkd
        have HSI := Lib.hid hsi
        have HD := Lib.hid hd
        clear e1 hkd hsi hd
        go_wp2_with fail
        refine (home_any key _ _ (by omega) (by omega)).mono ?_
        rintro e w2 ⟨rfl, rfl⟩
        go_wp2_with fail
        refine (tat_at _ _ _ K _ ((homeF K.length key + j) % K.length) _ hT (by simp) hsl).mono ?_
        rintro e w2 ⟨rfl, hT2, hF2⟩
        have hS2 := hr.1.touched hF2 (by simp) hT2
        have d5 := hS2.head.cell 5 rfl
        have hlk := hS2.look HSI.out (x := (((homeF K.length key : Nat) : Int) + (j : Int)) % (K.length : Int)) (by simp)
        have hfin : HasPost s y n room off L K C sl key w (.returned (.tuple #[.int .u32 ((i + 2 : Nat) : Int), .bool true])) w2 :=
          ⟨hS2, hr.2.1.then hF2, .inl ⟨i, d, HD.out, HKD.out.symm, rfl⟩⟩
        clear hS2 hr
        go_wp2
        go_ret2
        exact hfin
      · by_cases e2 : K0 K ((homeF K.length key + j) % K.length) = 0
        · have t1 := ne_test e1
          have t2 : ((K0 K ((homeF K.length key + j) % K.length) : Int) == 0) = true := by rw [e2]; simp
          have hab := HT.out.absent hk e2 (fun i hi => (hr.2.2 i hi).2)
          have HAB := Lib.hid hab
          clear e2 hab
          go_wp2_with fail
          refine (home_any key _ _ (by omega) (by omega)).mono ?_
          rintro e w2 ⟨rfl, rfl⟩
          go_wp2_with fail
          refine (tat_at _ _ _ K _ ((homeF K.length key + j) % K.length) _ hT (by simp) hsl).mono ?_
          rintro e w2 ⟨rfl, hT2, hF2⟩
          have hfin : HasPost s y n room off L K C sl key w (.returned (.tuple #[.int .u32 0, .bool false])) w2 :=
            ⟨hr.1.touched hF2 (by simp) hT2, hr.2.1.then hF2, .inr ⟨fun i d hi => HAB.out i d (List.getElem?_eq_some_iff.1 hi).1 hi, rfl⟩⟩
          clear hr
          go_wp2
          go_ret2
          exact hfin
        · have t1 := ne_test e1
          have t2 := ne_test0 e2
          go_wp2_with fail
          refine (home_any key _ _ (by omega) (by omega)).mono ?_
          rintro e w2 ⟨rfl, rfl⟩
          go_wp2_with fail
          refine (tat_at _ _ _ K _ ((homeF K.length key + j) % K.length) _ hT (by simp) hsl).mono ?_
          rintro e w2 ⟨rfl, hT2, hF2⟩
          go_wp2
          go_roundg (K.length - (j + 1))
          case measure => omega
          case rel => exact ⟨j + 1, by omega, rfl, by go_num, hr.next hT2 hF2 e2 e1⟩
    · have hfin : HasPost s y n room off L K C sl key w (.returned (.tuple #[.int .u32 0, .bool false])) wr :=
        ⟨hr.1, hr.2.1, .inr ⟨fun i d hi => HT.out.absent_all (fun i hi => (hr.2.2 i (by omega)).2) i d (List.getElem?_eq_some_iff.1 hi).1 hi, rfl⟩⟩
      clear hr
      go_wp2
      go_ret2
      exact hfin
end
end Go.Proofs.YtiojnjihbidbiaaGreat
