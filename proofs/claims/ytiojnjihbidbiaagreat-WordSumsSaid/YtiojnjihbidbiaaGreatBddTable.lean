/- The hash table with linear probing, and the lossy cache, over plain lists of numbers. No Go, no program. -/
import Derived.Test.YtiojnjihbidbiaaGreatBddOps
namespace Go.Proofs.YtiojnjihbidbiaaGreat.Bdd

theorem getD_set (K : List Nat) (s t v : Nat) (hs : s < K.length) : (K.set s v).getD t 0 = if t = s then v else K.getD t 0 := by
  simp only [List.getD_eq_getElem?_getD, List.getElem?_set]
  by_cases e : s = t
  · subst e; simp [hs]
  · rw [if_neg e, if_neg (fun h => e h.symm)]

theorem slot_lt {h j S : Nat} (hS : 0 < S) : (h + j) % S < S := Nat.mod_lt _ hS

/-- Some slot is reached from home that is empty, if not all are full. -/
theorem exists_zero {K : List Nat} (h : K.countP (fun x => x != 0) < K.length) : ∃ s, s < K.length ∧ K.getD s 0 = 0 := by
  induction K with
  | nil => simp at h
  | cons a K ih =>
    by_cases e : a = 0
    · exact ⟨0, by simp, by simp [e]⟩
    · rw [List.countP_cons_of_pos (by simpa using e)] at h
      obtain ⟨s, hs, hz⟩ := ih (by simpa using h)
      exact ⟨s + 1, by simpa using hs, by simpa using hz⟩

theorem least {p : Nat → Prop} [DecidablePred p] : ∀ (n : Nat), p n → ∃ m, m ≤ n ∧ p m ∧ ∀ k, k < m → ¬ p k
  | n, h => by
    by_cases e : ∃ k, k < n ∧ p k
    · obtain ⟨k, hk, pk⟩ := e
      obtain ⟨m, hm, pm, hl⟩ := least k pk
      exact ⟨m, by omega, pm, hl⟩
    · exact ⟨n, Nat.le_refl _, h, fun k hk pk => e ⟨k, hk, pk⟩⟩

theorem first_zero {K : List Nat} {home : Nat} (hh : home < K.length) (h : K.countP (fun x => x != 0) < K.length) :
    ∃ j, j < K.length ∧ K.getD ((home + j) % K.length) 0 = 0 ∧ ∀ i, i < j → K.getD ((home + i) % K.length) 0 ≠ 0 := by
  obtain ⟨s, hs, hz⟩ := exists_zero h
  have hj : ∃ j, j < K.length ∧ (home + j) % K.length = s := by
    by_cases e : home ≤ s
    · exact ⟨s - home, by omega, by rw [Nat.mod_eq_of_lt (by omega)]; omega⟩
    · refine ⟨s + K.length - home, by omega, ?_⟩
      rw [show home + (s + K.length - home) = s + K.length by omega, Nat.add_mod_right, Nat.mod_eq_of_lt hs]
  obtain ⟨j, hj, hjs⟩ := hj
  obtain ⟨m, hm, pm, hl⟩ := least (p := fun j => K.getD ((home + j) % K.length) 0 = 0) j (by rw [hjs]; exact hz)
  exact ⟨m, by omega, pm, hl⟩

def keyN (d : Nd) : Nat := d.lv * 2 ^ 56 + d.lo * 2 ^ 28 + d.hi

theorem keyN_inj {d e : Nd} (h1 : d.lo < 2 ^ 28) (h2 : d.hi < 2 ^ 28) (h3 : e.lo < 2 ^ 28) (h4 : e.hi < 2 ^ 28) (h : keyN d = keyN e) : d = e := by
  unfold keyN at h
  have a : d.lv = e.lv := by omega
  have b : d.lo = e.lo := by omega
  have c : d.hi = e.hi := by omega
  cases d; cases e; simp_all

/-- The table's cells K (home: where each key is looked for first) hold the first m nodes of L; sl: the handle at each slot. -/
structure TabInv (home : Nat → Nat) (K : List Nat) (sl : Nat → Option Nat) (L : List Nd) (m : Nat) : Prop where
  inside : ∀ k, home k < K.length
  of : ∀ s, s < K.length → K.getD s 0 ≠ 0 → ∃ i d, i < m ∧ L[i]? = some d ∧ K.getD s 0 = keyN d ∧ sl s = some (i + 2)
  at_ : ∀ i d, i < m → L[i]? = some d → ∃ j, j < K.length ∧ K.getD ((home (keyN d) + j) % K.length) 0 = keyN d ∧ ∀ j', j' < j → K.getD ((home (keyN d) + j') % K.length) 0 ≠ 0
  count : K.countP (fun x => x != 0) = m

theorem countP_set_zero {K : List Nat} {s v : Nat} (hs : s < K.length) (hz : K.getD s 0 = 0) (hv : v ≠ 0) : (K.set s v).countP (fun x => x != 0) = K.countP (fun x => x != 0) + 1 := by
  induction K generalizing s with
  | nil => simp at hs
  | cons a K ih =>
    cases s with
    | zero =>
      have : a = 0 := by simpa using hz
      subst this
      rw [List.set_cons_zero, List.countP_cons_of_pos (by simpa using hv), List.countP_cons_of_neg (by simp)]
    | succ s =>
      rw [List.set_cons_succ, List.countP_cons, List.countP_cons, ih (by simpa using hs) (by simpa using hz)]
      omega

theorem TabInv.insert {home : Nat → Nat} {K : List Nat} {sl : Nat → Option Nat} {L : List Nd} {m j : Nat} {d : Nd} (t : TabInv home K sl L m) (hd : L[m]? = some d) (hk : ∀ (i : Nat) (x : Nd), L[i]? = some x → keyN x ≠ 0)
    (hj : j < K.length) (hz : K.getD ((home (keyN d) + j) % K.length) 0 = 0) (hp : ∀ i, i < j → K.getD ((home (keyN d) + i) % K.length) 0 ≠ 0) :
    TabInv home (K.set ((home (keyN d) + j) % K.length) (keyN d)) (fun s => if s = (home (keyN d) + j) % K.length then some (m + 2) else sl s) L (m + 1) := by
  have hS : 0 < K.length := by omega
  have hs : (home (keyN d) + j) % K.length < K.length := slot_lt hS
  refine ⟨fun k => by rw [List.length_set]; exact t.inside k, ?_, ?_, ?_⟩
  · intro s hsl hne
    rw [List.length_set] at hsl
    rw [getD_set _ _ _ _ hs] at hne ⊢
    by_cases e : s = (home (keyN d) + j) % K.length
    · rw [if_pos e]
      exact ⟨m, d, by omega, hd, rfl, by rw [if_pos e]⟩
    · rw [if_neg e] at hne ⊢
      obtain ⟨i, x, hi, hx, hkx, hsx⟩ := t.of s hsl hne
      exact ⟨i, x, by omega, hx, hkx, by rw [if_neg e]; exact hsx⟩
  · intro i x hi hx
    rw [List.length_set]
    have pres : ∀ u v, K.getD u 0 = v → v ≠ 0 → (K.set ((home (keyN d) + j) % K.length) (keyN d)).getD u 0 = v := by
      intro u v hu hv
      rw [getD_set _ _ _ _ hs]
      by_cases e : u = (home (keyN d) + j) % K.length
      · subst e; rw [hz] at hu; exact absurd hu.symm hv
      · rw [if_neg e]; exact hu
    by_cases e : i = m
    · subst e
      rw [hd] at hx; obtain rfl := Option.some.inj hx
      refine ⟨j, hj, ?_, ?_⟩
      · rw [getD_set _ _ _ _ hs, if_pos rfl]
      · intro j' hj'
        rw [pres _ _ rfl (hp j' hj')]; exact hp j' hj'
    · obtain ⟨j0, hj0, he, hb⟩ := t.at_ i x (by omega) hx
      have hne0 : keyN x ≠ 0 := hk i x hx
      refine ⟨j0, hj0, pres _ _ he hne0, ?_⟩
      intro j' hj'
      rw [pres _ _ rfl (hb j' hj')]; exact hb j' hj'
  · rw [countP_set_zero hs hz (hk m d hd), t.count]

/-- What 'has' finds at the first slot that holds the key. -/
theorem TabInv.found {home : Nat → Nat} {K : List Nat} {sl : Nat → Option Nat} {L : List Nd} {m k s : Nat} (t : TabInv home K sl L m) (hs : s < K.length) (hk : k ≠ 0) (he : K.getD s 0 = k) :
    ∃ i d, i < m ∧ L[i]? = some d ∧ k = keyN d ∧ sl s = some (i + 2) := by
  obtain ⟨i, d, hi, hd, hkd, hsl⟩ := t.of s hs (by rw [he]; exact hk)
  exact ⟨i, d, hi, hd, by rw [← hkd, he], hsl⟩

/-- An empty slot ahead of any that holds the key: the key is nowhere. -/
theorem TabInv.absent {home : Nat → Nat} {K : List Nat} {sl : Nat → Option Nat} {L : List Nd} {m k j : Nat} (t : TabInv home K sl L m) (hk : k ≠ 0) (hz : K.getD ((home k + j) % K.length) 0 = 0)
    (hp : ∀ i, i < j → K.getD ((home k + i) % K.length) 0 ≠ k) : ∀ i d, i < m → L[i]? = some d → keyN d ≠ k := by
  intro i d hi hd e
  obtain ⟨j0, _, he, hb⟩ := t.at_ i d hi hd
  rw [e] at he hb
  rcases Nat.lt_trichotomy j0 j with h | h | h
  · exact hp j0 h he
  · subst h; rw [hz] at he; exact hk he.symm
  · exact hb j h hz

/-- No slot on the whole way round holds the key: the key is nowhere. -/
theorem TabInv.absent_all {home : Nat → Nat} {K : List Nat} {sl : Nat → Option Nat} {L : List Nd} {m k : Nat} (t : TabInv home K sl L m)
    (hp : ∀ i, i < K.length → K.getD ((home k + i) % K.length) 0 ≠ k) : ∀ i d, i < m → L[i]? = some d → keyN d ≠ k := by
  intro i d hi hd e
  obtain ⟨j0, hj, he, _⟩ := t.at_ i d hi hd
  rw [e] at he
  exact hp j0 hj he

/-- An empty table holds no node. -/
theorem TabInv.empty (home : Nat → Nat) (S : Nat) (sl : Nat → Option Nat) (L : List Nd) (hh : ∀ k, home k < S) : TabInv home (List.replicate S 0) sl L 0 := by
  refine ⟨by simpa using hh, ?_, ?_, ?_⟩
  · intro s hs hne
    rw [List.length_replicate] at hs
    exfalso; apply hne
    rw [List.getD_eq_getElem?_getD, List.getElem?_replicate, if_pos hs]; rfl
  · intro i d hi; omega
  · rw [List.countP_replicate]; simp

/-- The table goes by the nodes that are in it alone. -/
theorem TabInv.push {home : Nat → Nat} {K : List Nat} {sl : Nat → Option Nat} {L : List Nd} (t : TabInv home K sl L L.length) (d : Nd) : TabInv home K sl (L ++ [d]) L.length := by
  refine ⟨t.inside, ?_, ?_, t.count⟩
  · intro s hs hne
    obtain ⟨i, x, hi, hx, r⟩ := t.of s hs hne
    exact ⟨i, x, hi, by rw [List.getElem?_append_left hi]; exact hx, r⟩
  · intro i x hi hx
    rw [List.getElem?_append_left hi] at hx
    exact t.at_ i x hi hx

/-! The cache: lines of a version, a key, a value. -/

def wordN (op mask a b c : Nat) : Nat := op * 2 ^ 56 + mask * 2 ^ 48 + a * 2 ^ 32 + b * 2 ^ 16 + c

theorem wordN_inj {op a b c op' a' b' c' : Nat} (h1 : a < 2 ^ 16) (h2 : b < 2 ^ 16) (h3 : c < 2 ^ 16) (k1 : a' < 2 ^ 16) (k2 : b' < 2 ^ 16) (k3 : c' < 2 ^ 16)
    (h : wordN op 0 a b c = wordN op' 0 a' b' c') : op = op' ∧ a = a' ∧ b = b' ∧ c = c' := by
  unfold wordN at h
  refine ⟨by omega, by omega, by omega, by omega⟩

/-- A key and a value that tell a true result. -/
def Entry (n : Nat) (L : List Nd) (k v : Nat) : Prop :=
  ∃ op a b c, (op = 2 ∨ op = 3 ∨ op = 4 ∨ op = 5) ∧ k = wordN op 0 a b c ∧ IsNd (tab L) a ∧ IsNd (tab L) b ∧ IsNd (tab L) c ∧ Is n (tab L) op a b c v

theorem Entry.more {n c : Nat} {L L' : List Nd} {k v : Nat} (hw : Wf n (tab L)) (g : Gr n L L' c) (h : Entry n L k v) : Entry n L' k v := by
  obtain ⟨op, a, b, d, ho, hk, ha, hb, hd, hi, he⟩ := h
  exact ⟨op, a, b, d, ho, hk, g.isNd ha, g.isNd hb, g.isNd hd, g.isNd hi, fun y => by rw [g.D hw hi, g.D hw ha, g.D hw hb, g.D hw hd, he]⟩

theorem Entry.is {n : Nat} {L : List Nd} {op a b c v : Nat} (hL : L.length ≤ 32768) (ha : IsNd (tab L) a) (hb : IsNd (tab L) b) (hc : IsNd (tab L) c) (h : Entry n L (wordN op 0 a b c) v) : Is n (tab L) op a b c v := by
  obtain ⟨op', a', b', c', _, hk, ha', hb', hc', hi⟩ := h
  have lt : ∀ {h}, IsNd (tab L) h → h < 2 ^ 16 := fun {h} hh => by have := isNd_tab.1 hh; omega
  obtain ⟨rfl, rfl, rfl, rfl⟩ := wordN_inj (lt ha) (lt hb) (lt hc) (lt ha') (lt hb') (lt hc') hk
  exact hi

/-- The cache's cells C: each line is unlocked, and what it holds, if it is full, is true. -/
structure CacheInv (n : Nat) (L : List Nd) (lines : Nat) (C : List Nat) : Prop where
  len : C.length = 3 * lines
  even : ∀ l, l < lines → C.getD (3 * l) 0 % 2 = 0
  true_ : ∀ l, l < lines → C.getD (3 * l) 0 % 4 = 2 → Entry n L (C.getD (3 * l + 1) 0) (C.getD (3 * l + 2) 0)

theorem CacheInv.more {n c lines : Nat} {L L' : List Nd} {C : List Nat} (hw : Wf n (tab L)) (g : Gr n L L' c) (h : CacheInv n L lines C) : CacheInv n L' lines C :=
  ⟨h.len, h.even, fun l hl hf => (h.true_ l hl hf).more hw g⟩

theorem CacheInv.none (n : Nat) (L : List Nd) (lines : Nat) : CacheInv n L lines (List.replicate (3 * lines) 0) := by
  have z : ∀ i, (List.replicate (3 * lines) 0).getD i 0 = 0 := fun i => by
    rw [List.getD_eq_getElem?_getD, List.getElem?_replicate]; split <;> rfl
  exact ⟨by simp, fun l _ => by rw [z], fun l _ hf => by rw [z] at hf; omega⟩

/-- A line written anew. -/
def putLine (C : List Nat) (l ver k v : Nat) : List Nat := ((C.set (3 * l + 1) k).set (3 * l + 2) v).set (3 * l) ver

theorem CacheInv.put {n lines : Nat} {L : List Nd} {C : List Nat} (h : CacheInv n L lines C) {l ver k v : Nat} (hl : l < lines) (hv : ver % 4 = 2) (he : Entry n L k v) : CacheInv n L lines (putLine C l ver k v) := by
  have len := h.len
  have g : ∀ i, i < 3 * lines → (putLine C l ver k v).getD i 0 = if i = 3 * l then ver else if i = 3 * l + 2 then v else if i = 3 * l + 1 then k else C.getD i 0 := fun i hi => by
    unfold putLine
    rw [getD_set _ _ _ _ (by simp; omega), getD_set _ _ _ _ (by simp; omega), getD_set _ _ _ _ (by omega)]
  refine ⟨by unfold putLine; simpa using len, ?_, ?_⟩
  · intro j hj
    rw [g _ (by omega)]
    by_cases e : j = l
    · subst e; rw [if_pos rfl]; omega
    · rw [if_neg (by omega), if_neg (by omega), if_neg (by omega)]; exact h.even j hj
  · intro j hj hf
    rw [g _ (by omega)] at hf
    rw [g _ (by omega), g _ (by omega)]
    by_cases e : j = l
    · subst e
      rw [if_neg (by omega), if_neg (by omega), if_pos rfl, if_neg (by omega), if_pos rfl]; exact he
    · rw [if_neg (by omega), if_neg (by omega), if_neg (by omega)] at hf
      rw [if_neg (by omega), if_neg (by omega), if_neg (by omega), if_neg (by omega), if_neg (by omega), if_neg (by omega)]
      exact h.true_ j hj hf

end Go.Proofs.YtiojnjihbidbiaaGreat.Bdd
