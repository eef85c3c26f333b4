/- word, walked: why words can't be joined. -/
import Derived.Test.YtiojnjihbidbiaaGreatWord3
namespace Go.Proofs.YtiojnjihbidbiaaGreat
open Go.RowKit
attribute [local go_sem ↓] Go.wp_at_zero Go.wp_at_succ
set_option linter.unusedVariables false

/-- A slice of slices of handles. -/
def RowsAt (w : World) (v : Value) (ps : List (Value × List Nat)) : Prop := w.ownsRow 0 24 1 v ps.length (ps.map Prod.fst) ∧ ∀ (i : Nat) p, ps[i]? = some p → HsAt w p.1 p.2

def badLen (ps : List (Value × List Nat)) : Prop := ∃ (i : Nat) (p q : Value × List Nat), ps[i]? = some p ∧ ps[0]? = some q ∧ (p.2.length < 1 ∨ 8 < p.2.length ∨ p.2.length ≠ q.2.length)
def badNd (L : List Bdd.Nd) (ps : List (Value × List Nat)) : Prop := ∃ (i : Nat) (p : Value × List Nat) (j h : Nat), ps[i]? = some p ∧ p.2[j]? = some h ∧ L.length + 2 ≤ h

def RefPost (L : List Bdd.Nd) (ps : List (Value × List Nat)) (w : World) (e : Ending) (w' : World) : Prop :=
  w = w' ∧ ((e = .returned (.int .i64 40) ∧ badLen ps) ∨ (e = .returned (.int .i64 101) ∧ ¬ badLen ps ∧ badNd L ps) ∨ (e = .returned (.int .i64 0) ∧ ¬ badLen ps ∧ ¬ badNd L ps))

/-- The first j are long enough. -/
def OkLen (ps : List (Value × List Nat)) (j : Nat) : Prop := ∀ (i : Nat) (p q : Value × List Nat), i < j → ps[i]? = some p → ps[0]? = some q → 1 ≤ p.2.length ∧ p.2.length ≤ 8 ∧ p.2.length = q.2.length
def OkNd (L : List Bdd.Nd) (ps : List (Value × List Nat)) (j : Nat) : Prop := ∀ (i : Nat) (p : Value × List Nat) (m h : Nat), i < j → ps[i]? = some p → p.2[m]? = some h → h < L.length + 2

theorem OkLen.all {ps : List (Value × List Nat)} {j : Nat} (h : OkLen ps j) (hj : ps.length ≤ j) : ¬ badLen ps := by
  rintro ⟨i, p, q, hp, hq, hb⟩
  have := h i p q (by have := (List.getElem?_eq_some_iff.1 hp).1; omega) hp hq
  omega
theorem OkNd.all {L : List Bdd.Nd} {ps : List (Value × List Nat)} {j : Nat} (h : OkNd L ps j) (hj : ps.length ≤ j) : ¬ badNd L ps := by
  rintro ⟨i, p, m, x, hp, hx, hb⟩
  have := h i p m x (by have := (List.getElem?_eq_some_iff.1 hp).1; omega) hp hx
  omega
theorem OkLen.next {ps : List (Value × List Nat)} {j : Nat} {p q : Value × List Nat} (h : OkLen ps j) (hp : ps[j]? = some p) (hq : ps[0]? = some q) (h1 : 1 ≤ p.2.length ∧ p.2.length ≤ 8 ∧ p.2.length = q.2.length) : OkLen ps (j + 1) := by
  intro i p' q' hi hp' hq'
  rcases Nat.lt_or_ge i j with h2 | h2
  · exact h i p' q' h2 hp' hq'
  · have : i = j := by omega
    subst this
    rw [hp] at hp'; rw [hq] at hq'
    obtain rfl := Option.some.inj hp'
    obtain rfl := Option.some.inj hq'
    exact h1
theorem OkNd.next {L : List Bdd.Nd} {ps : List (Value × List Nat)} {j : Nat} {p : Value × List Nat} (h : OkNd L ps j) (hp : ps[j]? = some p) (h1 : ∀ (m x : Nat), p.2[m]? = some x → x < L.length + 2) : OkNd L ps (j + 1) := by
  intro i p' m x hi hp' hx
  rcases Nat.lt_or_ge i j with h2 | h2
  · exact h i p' m x h2 hp' hx
  · have : i = j := by omega
    subst this
    rw [hp] at hp'
    obtain rfl := Option.some.inj hp'
    exact h1 m x hx

section
variable {w w' : World} {s n room : Nat} {off : Bool} {B : List Nat} {L : List Bdd.Nd}

set_option maxHeartbeats 2000000 in
set_option maxRecDepth 4000 in
theorem refuses_any (h : Sto w s B n room off L) {lv : Value} {ps : List (Value × List Nat)} (hps : RowsAt w lv ps) (hlen : ps.length ≤ 8) (hsm : ∀ (i : Nat) (p : Value × List Nat) (j x : Nat), ps[i]? = some p → p.2[j]? = some x → x < 4294967296) (hlt : ∀ (i : Nat) (p : Value × List Nat), ps[i]? = some p → p.2.length < 1000000) :
    Calls Tryz.prog 98 #[.pointer (some ⟨s, 0, none⟩), lv] w (RefPost L ps w) := by
  obtain ⟨a, cap0, rfl, hcap0⟩ := row_shape hps.1
  have HS := Lib.hid hsm
  have HL := Lib.hid hlt
  have hlenL := h.len
  clear hsm hlt
  go_enter Tryz.func98, Tryz.ntmps98
  go_wp2_with fail
  go_loopg [13] ps.length (fun kk i wr => ∃ j : Nat, j ≤ ps.length ∧ kk = ps.length - j ∧ i = .int .i64 (j : Int) ∧ w = wr ∧ OkLen ps j)
  case atStart => exact ⟨0, by omega, by omega, rfl, rfl, fun i p q hi => absurd hi (by omega)⟩
  case round =>
    obtain ⟨j, hj, hk, rfl, rfl, hok⟩ := hrel
    by_cases hjl : j < ps.length
    · obtain ⟨p, hp⟩ : ∃ p, ps[j]? = some p := ⟨ps[j], List.getElem?_eq_getElem hjl⟩
      obtain ⟨q, hq⟩ : ∃ q, ps[0]? = some q := ⟨ps[0], List.getElem?_eq_getElem (by omega)⟩
      obtain ⟨g, cap, e, _, cg⟩ := row_get hps.1 (i := j) (x := p.1) (by rw [List.getElem?_map, hp]; rfl)
      obtain ⟨rfl, rfl⟩ : a = some ⟨g, 0, none⟩ ∧ cap0 = cap := by simpa using e
      obtain ⟨g', cap', e', _, cg0⟩ := row_get hps.1 (i := 0) (x := q.1) (by rw [List.getElem?_map, hq]; rfl)
      obtain ⟨rfl, rfl⟩ : g = g' ∧ cap0 = cap' := by simpa using e'
      obtain ⟨pa, pcap, hpv, _⟩ := (hps.2 j p hp).shape
      obtain ⟨qa, qcap, hqv, _⟩ := (hps.2 0 q hq).shape
      have hpl := HL.out j p hp
      have hql := HL.out 0 q hq
      rw [hpv] at cg
      rw [hqv] at cg0
      have HP := Lib.hid hp
      have HQ := Lib.hid hq
      have HOK := Lib.hid hok
      clear e e' hp hq hpv hqv hok
      by_cases hlong : 1 ≤ p.2.length ∧ p.2.length ≤ 8
      · by_cases heq : p.2.length = q.2.length
        · have t := yz heq
          have hnx := HOK.out.next HP.out HQ.out ⟨hlong.1, hlong.2, heq⟩
          have HNX := Lib.hid hnx
          clear hnx heq
          go_wp2_with fail
          refine (long_any p.2.length _ hlong.1 hlong.2).mono ?_
          rintro e w' ⟨rfl, rfl⟩
          go_wp2
          go_roundg (ps.length - (j + 1))
          case measure => omega
          case rel => exact ⟨j + 1, by omega, rfl, by go_num, rfl, HNX.out⟩
        · have t := ne_test heq
          have hfin : RefPost L ps w (.returned (.int .i64 40)) w := ⟨rfl, .inl ⟨rfl, j, p, q, HP.out, HQ.out, .inr (.inr heq)⟩⟩
          have HF := Lib.hid hfin
          clear hfin heq
          go_wp2_with fail
          refine (long_any p.2.length _ hlong.1 hlong.2).mono ?_
          rintro e w' ⟨rfl, rfl⟩
          go_wp2
          go_ret
          exact HF.out
      · have hlong' : p.2.length < 1 ∨ 8 < p.2.length := by omega
        have hfin : RefPost L ps w (.returned (.int .i64 40)) w := ⟨rfl, .inl ⟨rfl, j, p, q, HP.out, HQ.out, by omega⟩⟩
        have HF := Lib.hid hfin
        clear hfin hlong
        go_wp2_with fail
        refine (long_not p.2.length _ hlong').mono ?_
        rintro e w' ⟨rfl, rfl⟩
        go_wp2
        go_ret
        exact HF.out
    · have e : j = ps.length := by omega
      subst e
      have hnb := hok.all (Nat.le_refl _)
      have HNB := Lib.hid hnb
      clear hnb hok
      go_wp2_with fail
      go_loopg [33] ps.length (fun kk i wr => ∃ j : Nat, j ≤ ps.length ∧ kk = ps.length - j ∧ i = .int .i64 (j : Int) ∧ w = wr ∧ OkNd L ps j)
      case atStart => exact ⟨0, by omega, by omega, rfl, rfl, fun i p m x hi => absurd hi (by omega)⟩
      case round =>
        obtain ⟨j, hj, hk, rfl, rfl, hok⟩ := hrel
        by_cases hjl : j < ps.length
        · obtain ⟨p, hp⟩ : ∃ p, ps[j]? = some p := ⟨ps[j], List.getElem?_eq_getElem hjl⟩
          obtain ⟨g, cap, e, _, cg⟩ := row_get hps.1 (i := j) (x := p.1) (by rw [List.getElem?_map, hp]; rfl)
          obtain ⟨rfl, rfl⟩ : a = some ⟨g, 0, none⟩ ∧ cap0 = cap := by simpa using e
          have hHs := hps.2 j p hp
          obtain ⟨pa, pcap, hpv, _⟩ := hHs.shape
          have hpl := HL.out j p hp
          rw [hpv] at cg hHs
          have HP := Lib.hid hp
          have HOK := Lib.hid hok
          clear e hp hpv hok
          go_wp2_with fail
          go_loopg [39] p.2.length (fun kk i wr => ∃ m : Nat, m ≤ p.2.length ∧ kk = p.2.length - m ∧ i = .int .i64 (m : Int) ∧ w = wr ∧ ∀ (i x : Nat), i < m → p.2[i]? = some x → x < L.length + 2)
          case atStart => exact ⟨0, by omega, by omega, rfl, rfl, fun i x hi => absurd hi (by omega)⟩
          case round =>
            obtain ⟨m, hm, hk, rfl, rfl, hok⟩ := hrel
            by_cases hml : m < p.2.length
            · obtain ⟨x, hx⟩ : ∃ x, p.2[m]? = some x := ⟨p.2[m], List.getElem?_eq_getElem hml⟩
              obtain ⟨g2, cap2, e, cg2⟩ := hHs.get hx
              obtain ⟨rfl, rfl⟩ : pa = some ⟨g2, 0, none⟩ ∧ pcap = cap2 := by simpa using e
              have hxs := HS.out j p m x HP.out hx
              by_cases hxl : x < L.length + 2
              · have hnx : ∀ (i y : Nat), i < m + 1 → p.2[i]? = some y → y < L.length + 2 := fun i y hi hy => by
                  rcases Nat.lt_or_ge i m with h2 | h2
                  · exact hok i y h2 hy
                  · have : i = m := by omega
                    subst this
                    rw [hx] at hy; obtain rfl := Option.some.inj hy; exact hxl
                have t : decide ((x : Int) < (L.length : Int) + 2) = true := by simp; omega
                have HNX := Lib.hid hnx
                clear e hx hok hnx
                go_wp2_with fail
                refine (sto_is h (x : Int) (by omega) (by omega)).mono ?_
                rw [t]
                rintro e w' ⟨rfl, rfl⟩
                go_wp2
                go_roundg (p.2.length - (m + 1))
                case measure => omega
                case rel => exact ⟨m + 1, by omega, rfl, by go_num, rfl, HNX.out⟩
              · have t : decide ((x : Int) < (L.length : Int) + 2) = false := by simp; omega
                have hfin : RefPost L ps w (.returned (.int .i64 101)) w := ⟨rfl, .inr (.inl ⟨rfl, HNB.out, j, p, m, x, HP.out, hx, by omega⟩)⟩
                have HF := Lib.hid hfin
                clear e hx hok hfin
                go_wp2_with fail
                refine (sto_is h (x : Int) (by omega) (by omega)).mono ?_
                rw [t]
                rintro e w' ⟨rfl, rfl⟩
                go_wp2
                go_ret
                exact HF.out
            · have e : m = p.2.length := by omega
              subst e
              have hnx := HOK.out.next HP.out (fun i x hx => hok i x (List.getElem?_eq_some_iff.1 hx).1 hx)
              have HNX := Lib.hid hnx
              clear hok hnx
              go_wp2
              go_roundg (ps.length - (j + 1))
              case measure => omega
              case rel => exact ⟨j + 1, by omega, rfl, by go_num, rfl, HNX.out⟩
        · have e : j = ps.length := by omega
          subst e
          have hfin : RefPost L ps w (.returned (.int .i64 0)) w := ⟨rfl, .inr (.inr ⟨rfl, HNB.out, hok.all (Nat.le_refl _)⟩)⟩
          have HF := Lib.hid hfin
          clear hfin hok
          go_wp2
          go_ret
          exact HF.out
end
end Go.Proofs.YtiojnjihbidbiaaGreat
