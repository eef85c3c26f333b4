/- What not, and, or, xor, if-then-else do with diagrams: where they end at once, how a level's halves join, how many nodes they may lay. No Go, no program. -/
import Derived.Test.YtiojnjihbidbiaaGreatBddCount
namespace Go.Proofs.YtiojnjihbidbiaaGreat.Bdd

/-- Two tables of nodes, the second with more; at most c more above level 5. -/
structure Gr (n : Nat) (L L' : List Nd) (c : Nat) : Prop where
  ex : ∃ M, L' = L ++ M
  wf : Wf n (tab L')
  hi : high L' ≤ high L + c

theorem Gr.refl {n : Nat} {L : List Nd} (hw : Wf n (tab L)) : Gr n L L 0 := ⟨⟨[], by simp⟩, hw, Nat.le_refl _⟩
theorem Gr.trans {n c c' : Nat} {A B C : List Nd} (h : Gr n A B c) (k : Gr n B C c') : Gr n A C (c + c') := by
  obtain ⟨M, rfl⟩ := h.ex
  obtain ⟨N, rfl⟩ := k.ex
  exact ⟨⟨M ++ N, by simp⟩, k.wf, by have := h.hi; have := k.hi; omega⟩
theorem Gr.mono {n c c' : Nat} {A B : List Nd} (h : Gr n A B c) (hc : c ≤ c') : Gr n A B c' := ⟨h.ex, h.wf, by have := h.hi; omega⟩
theorem Gr.sub {n c : Nat} {A B : List Nd} (h : Gr n A B c) : Sub (tab A) (tab B) := by
  obtain ⟨M, rfl⟩ := h.ex
  intro k d hd
  have ⟨h2, hd'⟩ := tab_some hd
  unfold tab; rw [if_neg (by omega)]
  rw [List.getElem?_append_left (List.getElem?_eq_some_iff.1 hd').1]; exact hd'
theorem Gr.len {n c : Nat} {A B : List Nd} (h : Gr n A B c) : A.length ≤ B.length := by obtain ⟨M, rfl⟩ := h.ex; simp
theorem Gr.isNd {n c : Nat} {A B : List Nd} (g : Gr n A B c) {h : Nat} (hh : IsNd (tab A) h) : IsNd (tab B) h := g.sub.isNd hh
theorem Gr.lev {n c : Nat} {A B : List Nd} (g : Gr n A B c) {h : Nat} (hh : IsNd (tab A) h) : lev n (tab B) h = lev n (tab A) h := g.sub.lev hh
theorem Gr.D {n c : Nat} {A B : List Nd} (g : Gr n A B c) (hw : Wf n (tab A)) {h : Nat} (hh : IsNd (tab A) h) (y : Nat → Bool) : D n (tab B) h y = D n (tab A) h y := g.sub.D hw hh y

/-- A new node at the table's end. -/
theorem Gr.push {n : Nat} {L : List Nd} (hw : Wf n (tab L)) {d : Nd} (hl : d.lv < n) (hlo : IsNd (tab L) d.lo) (hhi : IsNd (tab L) d.hi) (llo : d.lv < Bdd.lev n (tab L) d.lo) (lhi : d.lv < Bdd.lev n (tab L) d.hi)
    (hne : d.lo ≠ d.hi) (hnew : ∀ h, tab L h ≠ some d) : Gr n L (L ++ [d]) (if d.lv < 5 then 1 else 0) :=
  ⟨⟨[d], rfl⟩, by rw [tab_push]; exact hw.add (tab_fresh L) (by omega) hl hlo hhi llo lhi hne hnew, by rw [high_push]; exact Nat.le_refl _⟩

/-- A node's child on the low side where it lies on level l, else itself. -/
def chLo (n : Nat) (T : Tab) (h l : Nat) : Nat := if lev n T h = l then (match T h with | some d => d.lo | none => h) else h
def chHi (n : Nat) (T : Tab) (h l : Nat) : Nat := if lev n T h = l then (match T h with | some d => d.hi | none => h) else h

theorem chLo_spec {n : Nat} {T : Tab} (hw : Wf n T) {h l : Nat} (hh : IsNd T h) (hl : l ≤ lev n T h) (ln : l < n) :
    IsNd T (chLo n T h l) ∧ l < lev n T (chLo n T h l) ∧ ∀ y, D n T (chLo n T h l) y = D n T h (upd y l false) := by
  unfold chLo
  by_cases e : lev n T h = l
  · rw [if_pos e]
    obtain ⟨h2, d, hd, hdl⟩ := lev_lt_node (n := n) hh (by omega)
    rw [hd]
    have : d.lv = l := by omega
    subst this
    exact ⟨hw.lo hd, hw.llo hd, fun y => (D_node_lo hw hd y).symm⟩
  · rw [if_neg e]
    exact ⟨hh, by omega, fun y => (D_upd_above hw hh (by omega) y false).symm⟩
theorem chHi_spec {n : Nat} {T : Tab} (hw : Wf n T) {h l : Nat} (hh : IsNd T h) (hl : l ≤ lev n T h) (ln : l < n) :
    IsNd T (chHi n T h l) ∧ l < lev n T (chHi n T h l) ∧ ∀ y, D n T (chHi n T h l) y = D n T h (upd y l true) := by
  unfold chHi
  by_cases e : lev n T h = l
  · rw [if_pos e]
    obtain ⟨h2, d, hd, hdl⟩ := lev_lt_node (n := n) hh (by omega)
    rw [hd]
    have : d.lv = l := by omega
    subst this
    exact ⟨hw.hi hd, hw.lhi hd, fun y => (D_node_hi hw hd y).symm⟩
  · rw [if_neg e]
    exact ⟨hh, by omega, fun y => (D_upd_above hw hh (by omega) y true).symm⟩

/-- The operations by their numbers: 2 and, 3 or, 4 xor, 5 if-then-else. -/
def opf (op : Nat) (a b c : Bool) : Bool :=
  if op = 2 then a && b else if op = 3 then a || b else if op = 4 then a ^^ b else if a then b else c

/-- h is what op makes of a, b, c. -/
def Is (n : Nat) (T : Tab) (op a b c h : Nat) : Prop := IsNd T h ∧ ∀ y, D n T h y = opf op (D n T a y) (D n T b y) (D n T c y)

def andEnds (a b : Nat) : Nat × Bool := if a = 0 ∨ b = 0 then (0, true) else if a = 1 ∨ a = b then (b, true) else if b = 1 then (a, true) else (0, false)
def orEnds (a b : Nat) : Nat × Bool := if a = 1 ∨ b = 1 then (1, true) else if a = 0 ∨ a = b then (b, true) else if b = 0 then (a, true) else (0, false)
def xorEnds (a b : Nat) : Nat × Bool := if a = b then (0, true) else if a = 0 then (b, true) else if b = 0 then (a, true) else (1, decide (a ≤ 1 ∧ b ≤ 1))
def iteEnds (a b c : Nat) : Nat × Bool := if a = 1 ∨ b = c then (b, true) else if a = 0 then (c, true) else (a, decide (b = 1 ∧ c = 0))
def ends (op a b c : Nat) : Nat × Bool :=
  if op = 2 then andEnds a b else if op = 3 then orEnds a b else if op = 4 then xorEnds a b else iteEnds a b c

theorem ends_is {n : Nat} {T : Tab} {op a b c : Nat} (ho : op = 2 ∨ op = 3 ∨ op = 4 ∨ op = 5) (ha : IsNd T a) (hb : IsNd T b) (hc : IsNd T c) (h : (ends op a b c).2 = true) : Is n T op a b c (ends op a b c).1 := by
  rcases ho with rfl | rfl | rfl | rfl
  · simp only [ends, if_true] at h ⊢
    unfold andEnds at h ⊢
    by_cases h1 : a = 0 ∨ b = 0
    · rw [if_pos h1]; refine ⟨IsNd.zero _, fun y => ?_⟩
      rcases h1 with rfl | rfl <;> simp [opf, D_zero]
    · rw [if_neg h1] at h ⊢
      by_cases h2 : a = 1 ∨ a = b
      · rw [if_pos h2]; refine ⟨hb, fun y => ?_⟩
        rcases h2 with rfl | rfl <;> simp [opf, D_one]
      · rw [if_neg h2] at h ⊢
        by_cases h3 : b = 1
        · rw [if_pos h3]; subst h3; exact ⟨ha, fun y => by simp [opf, D_one]⟩
        · rw [if_neg h3] at h; cases h
  · simp only [ends, Nat.reduceEqDiff, if_false, if_true] at h ⊢
    unfold orEnds at h ⊢
    by_cases h1 : a = 1 ∨ b = 1
    · rw [if_pos h1]; refine ⟨IsNd.one _, fun y => ?_⟩
      rcases h1 with rfl | rfl <;> simp [opf, D_one]
    · rw [if_neg h1] at h ⊢
      by_cases h2 : a = 0 ∨ a = b
      · rw [if_pos h2]; refine ⟨hb, fun y => ?_⟩
        rcases h2 with rfl | rfl <;> simp [opf, D_zero]
      · rw [if_neg h2] at h ⊢
        by_cases h3 : b = 0
        · rw [if_pos h3]; subst h3; exact ⟨ha, fun y => by simp [opf, D_zero]⟩
        · rw [if_neg h3] at h; cases h
  · simp only [ends, Nat.reduceEqDiff, if_false, if_true] at h ⊢
    unfold xorEnds at h ⊢
    by_cases h1 : a = b
    · rw [if_pos h1]; subst h1; exact ⟨IsNd.zero _, fun y => by simp [opf, D_zero]⟩
    · rw [if_neg h1] at h ⊢
      by_cases h2 : a = 0
      · rw [if_pos h2]; subst h2; exact ⟨hb, fun y => by simp [opf, D_zero]⟩
      · rw [if_neg h2] at h ⊢
        by_cases h3 : b = 0
        · rw [if_pos h3]; subst h3; exact ⟨ha, fun y => by simp [opf, D_zero]⟩
        · rw [if_neg h3] at h; simp at h; omega
  · simp only [ends, Nat.reduceEqDiff, if_false] at h ⊢
    unfold iteEnds at h ⊢
    by_cases h1 : a = 1 ∨ b = c
    · rw [if_pos h1]; refine ⟨hb, fun y => ?_⟩
      rcases h1 with rfl | rfl <;> simp [opf, D_one]
    · rw [if_neg h1] at h ⊢
      by_cases h2 : a = 0
      · rw [if_pos h2]; subst h2; exact ⟨hc, fun y => by simp [opf, D_zero]⟩
      · rw [if_neg h2] at h ⊢
        simp at h
        obtain ⟨rfl, rfl⟩ := h
        exact ⟨ha, fun y => by simp [opf, D_zero, D_one]⟩

/-- Where it does not end at once one of the arguments is no constant. -/
theorem ends_not {n : Nat} {T : Tab} (hw : Wf n T) {op a b c : Nat} (ho : op = 2 ∨ op = 3 ∨ op = 4 ∨ op = 5) (ha : IsNd T a) (hb : IsNd T b) (h : (ends op a b c).2 = false) :
    min (min (lev n T a) (lev n T b)) (lev n T c) < n := by
  have key : 2 ≤ a ∨ 2 ≤ b := by
    rcases ho with rfl | rfl | rfl | rfl
    · simp only [ends, if_true] at h
      unfold andEnds at h
      by_cases h1 : a = 0 ∨ b = 0
      · rw [if_pos h1] at h; cases h
      · rw [if_neg h1] at h
        by_cases h2 : a = 1 ∨ a = b
        · rw [if_pos h2] at h; cases h
        · omega
    · simp only [ends, Nat.reduceEqDiff, if_false, if_true] at h
      unfold orEnds at h
      by_cases h1 : a = 1 ∨ b = 1
      · rw [if_pos h1] at h; cases h
      · rw [if_neg h1] at h
        by_cases h2 : a = 0 ∨ a = b
        · rw [if_pos h2] at h; cases h
        · omega
    · simp only [ends, Nat.reduceEqDiff, if_false, if_true] at h
      unfold xorEnds at h
      by_cases h1 : a = b
      · rw [if_pos h1] at h; cases h
      · rw [if_neg h1] at h
        by_cases h2 : a = 0
        · rw [if_pos h2] at h; cases h
        · rw [if_neg h2] at h
          by_cases h3 : b = 0
          · rw [if_pos h3] at h; cases h
          · rw [if_neg h3] at h; simp at h; omega
    · simp only [ends, Nat.reduceEqDiff, if_false] at h
      unfold iteEnds at h
      by_cases h1 : a = 1 ∨ b = c
      · rw [if_pos h1] at h; cases h
      · rw [if_neg h1] at h
        by_cases h2 : a = 0
        · rw [if_pos h2] at h; cases h
        · omega
  have lv : ∀ j, 2 ≤ j → IsNd T j → lev n T j < n := fun j j2 jj => by
    obtain ⟨d, hd⟩ := jj.node j2
    rw [lev_node j2 hd]; exact hw.lv hd
  rcases key with k | k
  · have := lv a k ha; omega
  · have := lv b k hb; omega

theorem opf_upd (op : Nat) (f g k : (Nat → Bool) → Bool) (y : Nat → Bool) (l : Nat) :
    (if y l then opf op (f (upd y l true)) (g (upd y l true)) (k (upd y l true)) else opf op (f (upd y l false)) (g (upd y l false)) (k (upd y l false))) = opf op (f y) (g y) (k y) := by
  cases h : y l
  · simp only [Bool.false_eq_true, if_false]; rw [← h, upd_self]
  · simp only [if_true]; rw [← h, upd_self]

/-- The halves joined. -/
theorem join_is {n c1 c2 c3 : Nat} {L L1 L2 L3 : List Nd} (hw : Wf n (tab L)) (g1 : Gr n L L1 c1) (g2 : Gr n L1 L2 c2) (g3 : Gr n L2 L3 c3) {op a b c l x y h : Nat}
    (ha : IsNd (tab L) a) (hb : IsNd (tab L) b) (hc : IsNd (tab L) c) (ln : l < n) (la : l ≤ lev n (tab L) a) (lb : l ≤ lev n (tab L) b) (lc : l ≤ lev n (tab L) c)
    (hx : Is n (tab L1) op (chLo n (tab L) a l) (chLo n (tab L) b l) (chLo n (tab L) c l) x)
    (hy : Is n (tab L2) op (chHi n (tab L) a l) (chHi n (tab L) b l) (chHi n (tab L) c l) y)
    (hh : IsNd (tab L3) h) (hd : ∀ z, D n (tab L3) h z = if z l then D n (tab L2) y z else D n (tab L2) x z) : Is n (tab L3) op a b c h := by
  refine ⟨hh, fun z => ?_⟩
  have ⟨xa, _, xa2⟩ := chLo_spec hw ha la ln
  have ⟨xb, _, xb2⟩ := chLo_spec hw hb lb ln
  have ⟨xc, _, xc2⟩ := chLo_spec hw hc lc ln
  have ⟨ya, _, ya2⟩ := chHi_spec hw ha la ln
  have ⟨yb, _, yb2⟩ := chHi_spec hw hb lb ln
  have ⟨yc, _, yc2⟩ := chHi_spec hw hc lc ln
  have g12 := g1.trans g2
  have g13 := g12.trans g3
  rw [hd, hy.2, g2.D g1.wf hx.1, hx.2, g13.D hw ha, g13.D hw hb, g13.D hw hc]
  rw [g12.D hw ya, g12.D hw yb, g12.D hw yc, g1.D hw xa, g1.D hw xb, g1.D hw xc, xa2, xb2, xc2, ya2, yb2, yc2]
  exact opf_upd op (D n (tab L) a) (D n (tab L) b) (D n (tab L) c) z l

/-- How many nodes above level 5 an operation may lay from level l on. -/
def cb (l : Nat) : Nat := 2 ^ (5 - l) - 1
theorem cb_deep {l : Nat} (h : 5 ≤ l) : cb l = 0 := by unfold cb; rw [show 5 - l = 0 by omega]
theorem cb_two {l l1 l2 : Nat} (h1 : l < l1) (h2 : l < l2) : cb l1 + cb l2 + (if l < 5 then 1 else 0) ≤ cb l := by
  have anti : ∀ a b, a ≤ b → cb b ≤ cb a := fun a b h => by
    unfold cb
    have := Nat.pow_le_pow_right (n := 2) (by omega) (show 5 - b ≤ 5 - a by omega)
    omega
  have a1 := anti (l + 1) l1 (by omega)
  have a2 := anti (l + 1) l2 (by omega)
  by_cases h : l < 5
  · rw [if_pos h]
    have : cb l = 2 * cb (l + 1) + 1 := by
      unfold cb
      rw [show 5 - l = (5 - (l + 1)) + 1 by omega, Nat.pow_succ]
      have := Nat.pow_pos (n := 5 - (l + 1)) (show 0 < 2 by omega)
      omega
    omega
  · rw [if_neg h, cb_deep (l := l + 1) (by omega)] at *
    omega
theorem cb_le (l : Nat) : cb l ≤ 31 := by
  unfold cb
  have := Nat.pow_le_pow_right (n := 2) (by omega) (show 5 - l ≤ 5 by omega)
  omega

end Go.Proofs.YtiojnjihbidbiaaGreat.Bdd
