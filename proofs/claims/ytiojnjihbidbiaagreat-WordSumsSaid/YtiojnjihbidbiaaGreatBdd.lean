/- The plain theory of reduced ordered decision diagrams: a table of nodes, what a handle denotes, that it denotes it alone. No Go, no program. -/
namespace Go.Proofs.YtiojnjihbidbiaaGreat.Bdd

/-- A node: its level and its two children. -/
structure Nd where
  lv : Nat
  lo : Nat
  hi : Nat

/-- Which handle (from 2 on) is which node. -/
abbrev Tab := Nat → Option Nd

def IsNd (T : Tab) (h : Nat) : Prop := h < 2 ∨ ∃ d, T h = some d

/-- The level of a handle among n levels; n of the constants. -/
def lev (n : Nat) (T : Tab) (h : Nat) : Nat :=
  if h < 2 then n else match T h with
    | some d => d.lv
    | none => n

structure Wf (n : Nat) (T : Tab) : Prop where
  ge2 : ∀ {h d}, T h = some d → 2 ≤ h
  lv : ∀ {h d}, T h = some d → d.lv < n
  lo : ∀ {h d}, T h = some d → IsNd T d.lo
  hi : ∀ {h d}, T h = some d → IsNd T d.hi
  llo : ∀ {h d}, T h = some d → d.lv < lev n T d.lo
  lhi : ∀ {h d}, T h = some d → d.lv < lev n T d.hi
  ne : ∀ {h d}, T h = some d → d.lo ≠ d.hi
  uniq : ∀ {h k d}, T h = some d → T k = some d → h = k

/-- What a handle denotes, of the values at the levels; f: how deep to look. -/
def den (T : Tab) : Nat → Nat → (Nat → Bool) → Bool
  | 0, h, _ => h == 1
  | f + 1, h, y =>
    if h < 2 then h == 1 else match T h with
      | some d => if y d.lv then den T f d.hi y else den T f d.lo y
      | none => false

def D (n : Nat) (T : Tab) (h : Nat) (y : Nat → Bool) : Bool := den T n h y

theorem IsNd.zero (T : Tab) : IsNd T 0 := .inl (by omega)
theorem IsNd.one (T : Tab) : IsNd T 1 := .inl (by omega)
theorem IsNd.node {T : Tab} {h : Nat} (hh : IsNd T h) (h2 : 2 ≤ h) : ∃ d, T h = some d := hh.resolve_left (by omega)

theorem lev_const {n : Nat} {T : Tab} {h : Nat} (hh : h < 2) : lev n T h = n := by simp [lev, hh]
theorem lev_node {n : Nat} {T : Tab} {h : Nat} {d : Nd} (h2 : 2 ≤ h) (hd : T h = some d) : lev n T h = d.lv := by
  have : ¬ h < 2 := by omega
  simp [lev, this, hd]
theorem lev_le {n : Nat} {T : Tab} (hw : Wf n T) (h : Nat) : lev n T h ≤ n := by
  unfold lev
  split
  · exact Nat.le_refl _
  · split
    · rename_i d hd; exact Nat.le_of_lt (hw.lv hd)
    · exact Nat.le_refl _
theorem lev_lt_node {n : Nat} {T : Tab} {h : Nat} (hh : IsNd T h) (hl : lev n T h < n) : 2 ≤ h ∧ ∃ d, T h = some d ∧ lev n T h = d.lv := by
  by_cases h2 : h < 2
  · rw [lev_const h2] at hl; omega
  · obtain ⟨d, hd⟩ := hh.node (by omega)
    exact ⟨by omega, d, hd, lev_node (by omega) hd⟩

theorem den_const {T : Tab} (f h : Nat) (y : Nat → Bool) (hh : h < 2) : den T f h y = (h == 1) := by
  cases f <;> simp [den, hh]
theorem den_succ {T : Tab} {f h : Nat} {d : Nd} (y : Nat → Bool) (h2 : 2 ≤ h) (hd : T h = some d) :
    den T (f + 1) h y = if y d.lv then den T f d.hi y else den T f d.lo y := by
  have : ¬ h < 2 := by omega
  simp [den, this, hd]

/-- With enough depth more changes nothing. -/
theorem den_more {n : Nat} {T : Tab} (hw : Wf n T) (y : Nat → Bool) : ∀ (f g h : Nat), IsNd T h → n ≤ lev n T h + f → n ≤ lev n T h + g → den T f h y = den T g h y
  | 0, g, h, hh, hf, hg => by
    have h2 : h < 2 := by
      rcases Nat.lt_or_ge h 2 with h2 | h2
      · exact h2
      · obtain ⟨d, hd⟩ := hh.node h2
        have := hw.lv hd; rw [lev_node h2 hd] at hf; omega
    rw [den_const _ _ _ h2, den_const _ _ _ h2]
  | f + 1, g, h, hh, hf, hg => by
    rcases Nat.lt_or_ge h 2 with h2 | h2
    · rw [den_const _ _ _ h2, den_const _ _ _ h2]
    · obtain ⟨d, hd⟩ := hh.node h2
      have hl := hw.lv hd
      rw [lev_node h2 hd] at hf hg
      obtain ⟨g, rfl⟩ : ∃ k, g = k + 1 := ⟨g - 1, by omega⟩
      rw [den_succ y h2 hd, den_succ y h2 hd]
      have a := hw.llo hd
      have b := hw.lhi hd
      split
      · exact den_more hw y f g _ (hw.hi hd) (by omega) (by omega)
      · exact den_more hw y f g _ (hw.lo hd) (by omega) (by omega)

theorem D_zero {n : Nat} {T : Tab} (y : Nat → Bool) : D n T 0 y = false := by rw [D, den_const _ _ _ (by omega)]; rfl
theorem D_one {n : Nat} {T : Tab} (y : Nat → Bool) : D n T 1 y = true := by rw [D, den_const _ _ _ (by omega)]; rfl
theorem D_const {n : Nat} {T : Tab} {h : Nat} (hh : h < 2) (y : Nat → Bool) : D n T h y = (h == 1) := by rw [D, den_const _ _ _ hh]
theorem D_node {n : Nat} {T : Tab} (hw : Wf n T) {h : Nat} {d : Nd} (hd : T h = some d) (y : Nat → Bool) :
    D n T h y = if y d.lv then D n T d.hi y else D n T d.lo y := by
  have h2 := hw.ge2 hd
  have hl := hw.lv hd
  obtain ⟨m, rfl⟩ : ∃ m, n = m + 1 := ⟨n - 1, by omega⟩
  have a := hw.llo hd
  have b := hw.lhi hd
  unfold D
  rw [den_succ y h2 hd]
  split
  · exact den_more hw y _ _ _ (hw.hi hd) (by omega) (by omega)
  · exact den_more hw y _ _ _ (hw.lo hd) (by omega) (by omega)

/-- A handle's function hangs on its own level and deeper ones alone. -/
theorem D_dep {n : Nat} {T : Tab} (hw : Wf n T) : ∀ (m h : Nat), n ≤ lev n T h + m → IsNd T h → ∀ y z : Nat → Bool, (∀ l, lev n T h ≤ l → l < n → y l = z l) → D n T h y = D n T h z
  | 0, h, hm, hh, y, z, hyz => by
    have h2 : h < 2 := by
      rcases Nat.lt_or_ge h 2 with h2 | h2
      · exact h2
      · obtain ⟨d, hd⟩ := hh.node h2
        have := hw.lv hd; rw [lev_node h2 hd] at hm; omega
    rw [D_const h2, D_const h2]
  | m + 1, h, hm, hh, y, z, hyz => by
    rcases Nat.lt_or_ge h 2 with h2 | h2
    · rw [D_const h2, D_const h2]
    · obtain ⟨d, hd⟩ := hh.node h2
      have hl := hw.lv hd
      rw [lev_node h2 hd] at hm hyz
      have a := hw.llo hd
      have b := hw.lhi hd
      rw [D_node hw hd, D_node hw hd, hyz d.lv (Nat.le_refl _) hl]
      rw [D_dep hw m d.hi (by omega) (hw.hi hd) y z (fun l hl1 hl2 => hyz l (by omega) hl2),
        D_dep hw m d.lo (by omega) (hw.lo hd) y z (fun l hl1 hl2 => hyz l (by omega) hl2)]

theorem D_congr {n : Nat} {T : Tab} (hw : Wf n T) {h : Nat} (hh : IsNd T h) {y z : Nat → Bool} (hyz : ∀ l, lev n T h ≤ l → l < n → y l = z l) : D n T h y = D n T h z :=
  D_dep hw n h (by omega) hh y z hyz

def upd (y : Nat → Bool) (l : Nat) (b : Bool) : Nat → Bool := fun k => if k = l then b else y k
theorem upd_same (y : Nat → Bool) (l : Nat) (b : Bool) : upd y l b l = b := by simp [upd]
theorem upd_other (y : Nat → Bool) {l k : Nat} (b : Bool) (h : k ≠ l) : upd y l b k = y k := by simp [upd, h]
theorem upd_self (y : Nat → Bool) (l : Nat) : upd y l (y l) = y := by funext k; by_cases h : k = l <;> simp [upd, h]

theorem D_upd_above {n : Nat} {T : Tab} (hw : Wf n T) {h l : Nat} (hh : IsNd T h) (hl : l < lev n T h) (y : Nat → Bool) (b : Bool) : D n T h (upd y l b) = D n T h y :=
  D_congr hw hh fun k hk _ => upd_other y b (by omega)

theorem D_node_lo {n : Nat} {T : Tab} (hw : Wf n T) {h : Nat} {d : Nd} (hd : T h = some d) (y : Nat → Bool) : D n T h (upd y d.lv false) = D n T d.lo y := by
  rw [D_node hw hd, upd_same]; simp only [Bool.false_eq_true, if_false]; exact D_upd_above hw (hw.lo hd) (hw.llo hd) y false
theorem D_node_hi {n : Nat} {T : Tab} (hw : Wf n T) {h : Nat} {d : Nd} (hd : T h = some d) (y : Nat → Bool) : D n T h (upd y d.lv true) = D n T d.hi y := by
  rw [D_node hw hd, upd_same]; simp only [if_true]; exact D_upd_above hw (hw.hi hd) (hw.lhi hd) y true

/-- Two handles of one function are one. -/
theorem canon {n : Nat} {T : Tab} (hw : Wf n T) : ∀ (m h k : Nat), n ≤ lev n T h + m → n ≤ lev n T k + m → IsNd T h → IsNd T k → (∀ y, D n T h y = D n T k y) → h = k
  | 0, h, k, hm, km, hh, hk, e => by
    have small : ∀ j, n ≤ lev n T j + 0 → IsNd T j → j < 2 := fun j jm jj => by
      rcases Nat.lt_or_ge j 2 with h2 | h2
      · exact h2
      · obtain ⟨d, hd⟩ := jj.node h2
        have := hw.lv hd; rw [lev_node h2 hd] at jm; omega
    have a := small h hm hh
    have b := small k km hk
    have := e (fun _ => false)
    rw [D_const a, D_const b] at this
    match h, k, a, b with
    | 0, 0, _, _ => rfl
    | 1, 1, _, _ => rfl
    | 0, 1, _, _ => simp at this
    | 1, 0, _, _ => simp at this
    | h + 2, _, a, _ => omega
    | _, k + 2, _, b => omega
  | m + 1, h, k, hm, km, hh, hk, e => by
    -- a node whose children's functions are one cannot be
    have split1 : ∀ j d, T j = some d → n ≤ d.lv + (m + 1) → (∀ y, D n T d.lo y = D n T d.hi y) → False := fun j d hd hdm hy => by
      have a := hw.llo hd
      have b := hw.lhi hd
      exact hw.ne hd (canon hw m d.lo d.hi (by omega) (by omega) (hw.lo hd) (hw.hi hd) hy)
    rcases Nat.lt_or_ge h 2 with h2 | h2
    · rcases Nat.lt_or_ge k 2 with k2 | k2
      · have := e (fun _ => false)
        rw [D_const h2, D_const k2] at this
        match h, k, h2, k2 with
        | 0, 0, _, _ => rfl
        | 1, 1, _, _ => rfl
        | 0, 1, _, _ => simp at this
        | 1, 0, _, _ => simp at this
        | h + 2, _, a, _ => omega
        | _, k + 2, _, b => omega
      · obtain ⟨d, hd⟩ := hk.node k2
        rw [lev_node k2 hd] at km
        refine (split1 k d hd km fun y => ?_).elim
        rw [← D_node_lo hw hd y, ← D_node_hi hw hd y, ← e, ← e, D_const h2, D_const h2]
    · obtain ⟨d, hd⟩ := hh.node h2
      rw [lev_node h2 hd] at hm
      rcases Nat.lt_or_ge k 2 with k2 | k2
      · refine (split1 h d hd hm fun y => ?_).elim
        rw [← D_node_lo hw hd y, ← D_node_hi hw hd y, e, e, D_const k2, D_const k2]
      · obtain ⟨g, hg⟩ := hk.node k2
        rw [lev_node k2 hg] at km
        rcases Nat.lt_trichotomy d.lv g.lv with hl | hl | hl
        · refine (split1 h d hd hm fun y => ?_).elim
          rw [← D_node_lo hw hd y, ← D_node_hi hw hd y, e, e, D_upd_above hw hk (by rw [lev_node k2 hg]; exact hl), D_upd_above hw hk (by rw [lev_node k2 hg]; exact hl)]
        · have a := hw.llo hd
          have b := hw.lhi hd
          have a' := hw.llo hg
          have b' := hw.lhi hg
          have e1 : d.lo = g.lo := canon hw m _ _ (by omega) (by omega) (hw.lo hd) (hw.lo hg) fun y => by
            rw [← D_node_lo hw hd y, ← D_node_lo hw hg y, e, hl]
          have e2 : d.hi = g.hi := canon hw m _ _ (by omega) (by omega) (hw.hi hd) (hw.hi hg) fun y => by
            rw [← D_node_hi hw hd y, ← D_node_hi hw hg y, e, hl]
          have : d = g := by cases d; cases g; simp_all
          subst this
          exact hw.uniq hd hg
        · refine (split1 k g hg km fun y => ?_).elim
          rw [← D_node_lo hw hg y, ← D_node_hi hw hg y, ← e, ← e, D_upd_above hw hh (by rw [lev_node h2 hd]; exact hl), D_upd_above hw hh (by rw [lev_node h2 hd]; exact hl)]

theorem eq_of_D {n : Nat} {T : Tab} (hw : Wf n T) {h k : Nat} (hh : IsNd T h) (hk : IsNd T k) (e : ∀ y, D n T h y = D n T k y) : h = k :=
  canon hw n h k (by omega) (by omega) hh hk e

/-- A handle whose function does not hang on the levels above m lies at m or deeper. -/
theorem lev_ge {n : Nat} {T : Tab} (hw : Wf n T) {h m : Nat} (hh : IsNd T h) (hm : m ≤ n) (e : ∀ l, l < m → ∀ y b, D n T h (upd y l b) = D n T h y) : m ≤ lev n T h := by
  rcases Nat.lt_or_ge h 2 with h2 | h2
  · rw [lev_const h2]; exact hm
  · obtain ⟨d, hd⟩ := hh.node h2
    rw [lev_node h2 hd]
    rcases Nat.lt_or_ge d.lv m with hl | hl
    · exfalso
      refine hw.ne hd (eq_of_D hw (hw.lo hd) (hw.hi hd) fun y => ?_)
      rw [← D_node_lo hw hd y, ← D_node_hi hw hd y, e _ hl, e _ hl]
    · exact hl

/-- T' has all nodes of T. -/
def Sub (T T' : Tab) : Prop := ∀ h d, T h = some d → T' h = some d
theorem Sub.refl (T : Tab) : Sub T T := fun _ _ h => h
theorem Sub.trans {A B C : Tab} (h : Sub A B) (k : Sub B C) : Sub A C := fun x d hd => k x d (h x d hd)
theorem Sub.isNd {T T' : Tab} (s : Sub T T') {h : Nat} (hh : IsNd T h) : IsNd T' h := hh.imp id fun ⟨d, hd⟩ => ⟨d, s h d hd⟩
theorem Sub.lev {n : Nat} {T T' : Tab} (s : Sub T T') {h : Nat} (hh : IsNd T h) : lev n T' h = lev n T h := by
  rcases Nat.lt_or_ge h 2 with h2 | h2
  · rw [lev_const h2, lev_const h2]
  · obtain ⟨d, hd⟩ := hh.node h2
    rw [lev_node h2 hd, lev_node h2 (s h d hd)]
theorem Sub.den {n : Nat} {T T' : Tab} (s : Sub T T') (hw : Wf n T) (y : Nat → Bool) : ∀ (f h : Nat), IsNd T h → den T' f h y = den T f h y
  | 0, _, _ => rfl
  | f + 1, h, hh => by
    rcases Nat.lt_or_ge h 2 with h2 | h2
    · rw [den_const _ _ _ h2, den_const _ _ _ h2]
    · obtain ⟨d, hd⟩ := hh.node h2
      rw [den_succ y h2 hd, den_succ y h2 (s h d hd), s.den hw y f _ (hw.hi hd), s.den hw y f _ (hw.lo hd)]
theorem Sub.D {n : Nat} {T T' : Tab} (s : Sub T T') (hw : Wf n T) {h : Nat} (hh : IsNd T h) (y : Nat → Bool) : D n T' h y = D n T h y := s.den hw y n h hh

/-- A node more. -/
def add (T : Tab) (k : Nat) (d : Nd) : Tab := fun h => if h = k then some d else T h
theorem add_same (T : Tab) (k : Nat) (d : Nd) : add T k d k = some d := by simp [add]
theorem add_other (T : Tab) {k h : Nat} (d : Nd) (hh : h ≠ k) : add T k d h = T h := by simp [add, hh]
theorem Sub.add {T : Tab} {k : Nat} (d : Nd) (hk : T k = none) : Sub T (add T k d) := fun h x hx => by
  rw [add_other _ _ (fun e => by subst e; rw [hk] at hx; cases hx)]; exact hx

theorem Wf.add {n : Nat} {T : Tab} (hw : Wf n T) {k : Nat} {d : Nd} (hk : T k = none) (k2 : 2 ≤ k) (hl : d.lv < n) (hlo : IsNd T d.lo) (hhi : IsNd T d.hi) (llo : d.lv < lev n T d.lo) (lhi : d.lv < lev n T d.hi)
    (hne : d.lo ≠ d.hi) (hnew : ∀ h, T h ≠ some d) : Wf n (Bdd.add T k d) := by
  have s := Sub.add (T := T) (k := k) d hk
  have cases2 : ∀ {h x}, Bdd.add T k d h = some x → (h = k ∧ x = d) ∨ (h ≠ k ∧ T h = some x) := fun {h x} hx => by
    by_cases e : h = k
    · subst e; rw [add_same] at hx; exact .inl ⟨rfl, (Option.some.inj hx).symm⟩
    · rw [add_other _ _ e] at hx; exact .inr ⟨e, hx⟩
  refine ⟨?_, ?_, ?_, ?_, ?_, ?_, ?_, ?_⟩
  · intro h x hx; rcases cases2 hx with ⟨rfl, rfl⟩ | ⟨_, hx⟩
    · exact k2
    · exact hw.ge2 hx
  · intro h x hx; rcases cases2 hx with ⟨rfl, rfl⟩ | ⟨_, hx⟩
    · exact hl
    · exact hw.lv hx
  · intro h x hx; rcases cases2 hx with ⟨rfl, rfl⟩ | ⟨_, hx⟩
    · exact s.isNd hlo
    · exact s.isNd (hw.lo hx)
  · intro h x hx; rcases cases2 hx with ⟨rfl, rfl⟩ | ⟨_, hx⟩
    · exact s.isNd hhi
    · exact s.isNd (hw.hi hx)
  · intro h x hx; rcases cases2 hx with ⟨rfl, rfl⟩ | ⟨_, hx⟩
    · rw [s.lev hlo]; exact llo
    · rw [s.lev (hw.lo hx)]; exact hw.llo hx
  · intro h x hx; rcases cases2 hx with ⟨rfl, rfl⟩ | ⟨_, hx⟩
    · rw [s.lev hhi]; exact lhi
    · rw [s.lev (hw.hi hx)]; exact hw.lhi hx
  · intro h x hx; rcases cases2 hx with ⟨rfl, rfl⟩ | ⟨_, hx⟩
    · exact hne
    · exact hw.ne hx
  · intro h j x hx hj
    rcases cases2 hx with ⟨h1, h2⟩ | ⟨_, hx1⟩
    · rcases cases2 hj with ⟨j1, _⟩ | ⟨_, hj1⟩
      · rw [h1, j1]
      · exact (hnew _ (h2 ▸ hj1)).elim
    · rcases cases2 hj with ⟨_, j2⟩ | ⟨_, hj1⟩
      · exact (hnew _ (j2 ▸ hx1)).elim
      · exact hw.uniq hx1 hj1

theorem Wf.none (n : Nat) : Wf n (fun _ => none) := by
  refine ⟨?_, ?_, ?_, ?_, ?_, ?_, ?_, ?_⟩
  all_goals (intros; contradiction)

end Go.Proofs.YtiojnjihbidbiaaGreat.Bdd
