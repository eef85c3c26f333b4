/- How many nodes there are: at most 256 of the levels from 5 on, among at most eight levels. No Go, no program. -/
import Derived.Test.YtiojnjihbidbiaaGreatBdd
namespace Go.Proofs.YtiojnjihbidbiaaGreat.Bdd

/-- Different numbers below m: at most m. -/
theorem nodup_lt : ∀ (m : Nat) (l : List Nat), l.Nodup → (∀ x ∈ l, x < m) → l.length ≤ m
  | 0, l, _, h => by
    cases l with
    | nil => exact Nat.le_refl _
    | cons a l => exact absurd (h a (by simp)) (by omega)
  | m + 1, l, hn, h => by
    have hf : (l.filter fun x => x != m).length ≤ m := nodup_lt m _ (hn.filter _) fun x hx => by
      simp only [List.mem_filter, bne_iff_ne, ne_eq] at hx
      have := h x hx.1; omega
    have hc : l.length = (l.filter fun x => x != m).length + (l.filter fun x => !(x != m)).length := by
      have := List.length_eq_countP_add_countP (p := fun x => x != m) (l := l)
      simp only [List.countP_eq_length_filter] at this
      rw [this]
      congr 2
      refine List.filter_congr fun x _ => ?_
      by_cases e : x = m <;> simp [e]
    have h1 : (l.filter fun x => !(x != m)).length ≤ 1 := by
      have hn2 : (l.filter fun x => !(x != m)).Nodup := hn.filter _
      have hall : ∀ x ∈ (l.filter fun x => !(x != m)), x = m := fun x hx => by
        simp only [List.mem_filter] at hx
        have := hx.2; simpa using this
      generalize (l.filter fun x => !(x != m)) = k at hn2 hall
      match k, hn2, hall with
      | [], _, _ => simp
      | [_], _, _ => simp
      | a :: b :: r, hn2, hall =>
        have ha := hall a (by simp)
        have hb := hall b (by simp)
        subst ha; subst hb
        simp at hn2
    omega

def b2n (b : Bool) : Nat := if b then 1 else 0
theorem b2n_inj {a b : Bool} (h : b2n a = b2n b) : a = b := by cases a <;> cases b <;> simp [b2n] at h <;> rfl
theorem b2n_le (a : Bool) : b2n a ≤ 1 := by cases a <;> simp [b2n]

def code8 (g : Nat → Bool) : Nat := b2n (g 0) + 2 * b2n (g 1) + 4 * b2n (g 2) + 8 * b2n (g 3) + 16 * b2n (g 4) + 32 * b2n (g 5) + 64 * b2n (g 6) + 128 * b2n (g 7)
theorem code8_lt (g : Nat → Bool) : code8 g < 256 := by
  have h0 := b2n_le (g 0); have h1 := b2n_le (g 1); have h2 := b2n_le (g 2); have h3 := b2n_le (g 3)
  have h4 := b2n_le (g 4); have h5 := b2n_le (g 5); have h6 := b2n_le (g 6); have h7 := b2n_le (g 7)
  unfold code8; omega
theorem code8_inj {g f : Nat → Bool} (h : code8 g = code8 f) : ∀ j, j < 8 → g j = f j := by
  have h0 := b2n_le (g 0); have h1 := b2n_le (g 1); have h2 := b2n_le (g 2); have h3 := b2n_le (g 3)
  have h4 := b2n_le (g 4); have h5 := b2n_le (g 5); have h6 := b2n_le (g 6); have h7 := b2n_le (g 7)
  have k0 := b2n_le (f 0); have k1 := b2n_le (f 1); have k2 := b2n_le (f 2); have k3 := b2n_le (f 3)
  have k4 := b2n_le (f 4); have k5 := b2n_le (f 5); have k6 := b2n_le (f 6); have k7 := b2n_le (f 7)
  unfold code8 at h
  have e0 : b2n (g 0) = b2n (f 0) := by omega
  have e1 : b2n (g 1) = b2n (f 1) := by omega
  have e2 : b2n (g 2) = b2n (f 2) := by omega
  have e3 : b2n (g 3) = b2n (f 3) := by omega
  have e4 : b2n (g 4) = b2n (f 4) := by omega
  have e5 : b2n (g 5) = b2n (f 5) := by omega
  have e6 : b2n (g 6) = b2n (f 6) := by omega
  have e7 : b2n (g 7) = b2n (f 7) := by omega
  intro j hj
  match j, hj with
  | 0, _ => exact b2n_inj e0
  | 1, _ => exact b2n_inj e1
  | 2, _ => exact b2n_inj e2
  | 3, _ => exact b2n_inj e3
  | 4, _ => exact b2n_inj e4
  | 5, _ => exact b2n_inj e5
  | 6, _ => exact b2n_inj e6
  | 7, _ => exact b2n_inj e7
  | j + 8, hj => omega

/-- Of the three deepest levels: the values by a number below 8. -/
def three (j : Nat) : Nat → Bool := fun l => (j / 2 ^ (l - 5)) % 2 == 1

theorem three_of (y : Nat → Bool) : ∃ j, j < 8 ∧ ∀ l, 5 ≤ l → l < 8 → y l = three j l := by
  refine ⟨b2n (y 5) + 2 * b2n (y 6) + 4 * b2n (y 7), ?_, ?_⟩
  · have := b2n_le (y 5); have := b2n_le (y 6); have := b2n_le (y 7); omega
  · intro l h5 h8
    have : l = 5 ∨ l = 6 ∨ l = 7 := by omega
    rcases this with rfl | rfl | rfl
    all_goals (cases y 5 <;> cases y 6 <;> cases y 7 <;> decide)

/-- The table of a list of nodes: handle h is the node at h - 2. -/
def tab (L : List Nd) : Tab := fun h => if h < 2 then none else L[h - 2]?
theorem tab_two (L : List Nd) (i : Nat) : tab L (i + 2) = L[i]? := by unfold tab; rw [if_neg (by omega)]; rfl
theorem tab_some {L : List Nd} {h : Nat} {d : Nd} (hd : tab L h = some d) : 2 ≤ h ∧ L[h - 2]? = some d := by
  unfold tab at hd
  split at hd
  · cases hd
  · exact ⟨by omega, hd⟩
theorem tab_lt {L : List Nd} {h : Nat} {d : Nd} (hd : tab L h = some d) : h < L.length + 2 := by
  have ⟨h2, hd⟩ := tab_some hd
  have := (List.getElem?_eq_some_iff.1 hd).1
  omega
theorem isNd_tab {L : List Nd} {h : Nat} : IsNd (tab L) h ↔ h < L.length + 2 := by
  constructor
  · rintro (hh | ⟨d, hd⟩)
    · omega
    · exact tab_lt hd
  · intro hh
    rcases Nat.lt_or_ge h 2 with h2 | h2
    · exact .inl h2
    · exact .inr ⟨L[h - 2]'(by omega), by unfold tab; rw [if_neg (by omega), List.getElem?_eq_getElem]⟩
theorem tab_push (L : List Nd) (d : Nd) : tab (L ++ [d]) = add (tab L) (L.length + 2) d := by
  funext h
  show (if h < 2 then none else (L ++ [d])[h - 2]?) = if h = L.length + 2 then some d else if h < 2 then none else L[h - 2]?
  by_cases h2 : h < 2
  · rw [if_pos h2, if_neg (by omega), if_pos h2]
  · rw [if_neg h2]
    by_cases e : h = L.length + 2
    · subst e; simp
    · rw [if_neg e, if_neg h2]
      by_cases hl : h - 2 < L.length
      · rw [List.getElem?_append_left hl]
      · rw [List.getElem?_eq_none (by simp; omega), List.getElem?_eq_none (by omega)]
theorem tab_fresh (L : List Nd) : tab L (L.length + 2) = none := by rw [tab_two]; simp

/-- How many nodes lie above level 5. -/
def high (L : List Nd) : Nat := L.countP fun d => d.lv < 5
theorem high_push (L : List Nd) (d : Nd) : high (L ++ [d]) = high L + if d.lv < 5 then 1 else 0 := by
  unfold high; rw [List.countP_append]; simp [List.countP_cons]

theorem countP_range (p : Nd → Bool) (M : List Nd) : ((List.range M.length).filter fun i => match M[i]? with | some d => p d | none => false).length = M.countP p := by
  rw [← List.countP_eq_length_filter]
  have e : (List.range M.length).map (fun i => M[i]?) = M.map some := by
    apply List.ext_getElem?
    intro i
    simp only [List.getElem?_map]
    by_cases hi : i < M.length
    · rw [List.getElem?_range hi, List.getElem?_eq_getElem hi]; simp [List.getElem?_eq_getElem hi]
    · rw [List.getElem?_eq_none (by simpa using hi), List.getElem?_eq_none (by omega)]; rfl
  have := congrArg (List.countP fun o => match o with | some d => p d | none => false) e
  rw [List.countP_map, List.countP_map] at this
  exact this

theorem deep_le {n : Nat} {L : List Nd} (hw : Wf n (tab L)) (hn : n ≤ 8) : L.countP (fun d => !(decide (d.lv < 5))) ≤ 256 := by
  rw [← countP_range]
  have hidx : ((List.range L.length).filter fun i => match L[i]? with | some d => !(decide (d.lv < 5)) | none => false).Nodup := List.nodup_range.filter _
  have hmem : ∀ i, i ∈ ((List.range L.length).filter fun i => match L[i]? with | some d => !(decide (d.lv < 5)) | none => false) → ∃ d, tab L (i + 2) = some d ∧ 5 ≤ d.lv := by
    intro i hi
    simp only [List.mem_filter, List.mem_range] at hi
    obtain ⟨hi, h5⟩ := hi
    rw [List.getElem?_eq_getElem hi] at h5
    refine ⟨L[i], by rw [tab_two, List.getElem?_eq_getElem hi], ?_⟩
    simpa using h5
  generalize ((List.range L.length).filter fun i => match L[i]? with | some d => !(decide (d.lv < 5)) | none => false) = idx at hidx hmem
  have hcode : (idx.map fun i => code8 fun j => D n (tab L) (i + 2) (three j)).Nodup := by
    unfold List.Nodup
    rw [List.pairwise_map]
    refine List.Pairwise.imp_of_mem ?_ hidx
    intro a b ha hb hab hc
    obtain ⟨da, hda, la⟩ := hmem a ha
    obtain ⟨db, hdb, lb⟩ := hmem b hb
    apply hab
    have := eq_of_D hw (.inr ⟨da, hda⟩) (.inr ⟨db, hdb⟩) fun y => by
      obtain ⟨j, hj, hy⟩ := three_of y
      have ea : D n (tab L) (a + 2) y = D n (tab L) (a + 2) (three j) := D_congr hw (.inr ⟨da, hda⟩) fun l h1 h2 => by
        rw [lev_node (by omega) hda] at h1; exact hy l (by omega) (by omega)
      have eb : D n (tab L) (b + 2) y = D n (tab L) (b + 2) (three j) := D_congr hw (.inr ⟨db, hdb⟩) fun l h1 h2 => by
        rw [lev_node (by omega) hdb] at h1; exact hy l (by omega) (by omega)
      rw [ea, eb]
      exact code8_inj hc j hj
    omega
  have := nodup_lt 256 _ hcode fun x hx => by
    simp only [List.mem_map] at hx
    obtain ⟨i, _, rfl⟩ := hx
    exact code8_lt _
  simpa using this

/-- All nodes: those above level 5, and no more than 256. -/
theorem length_le {n : Nat} {L : List Nd} (hw : Wf n (tab L)) (hn : n ≤ 8) : L.length ≤ high L + 256 := by
  have h1 := deep_le hw hn
  have h2 := List.length_eq_countP_add_countP (p := fun d : Nd => decide (d.lv < 5)) (l := L)
  have e : L.countP (fun a => decide ¬((fun d : Nd => decide (d.lv < 5)) a) = true) = L.countP (fun d => !(decide (d.lv < 5))) := by
    congr 1; funext d; by_cases h : d.lv < 5 <;> simp [h]
  rw [e] at h2
  unfold high
  omega

end Go.Proofs.YtiojnjihbidbiaaGreat.Bdd
