/- Package cache, walked, its third part: a step of an act, at each of its states. -/
import Derived.Test.YtiojnjihbidbiaaGreatCache2
namespace Go.Proofs.YtiojnjihbidbiaaGreat
open Go.RowKit
set_option linter.unusedVariables false

theorem salooks_any (f m cb : Nat) (C : List Nat) (p key val ver got : Nat) (ok : Bool) (w : World) (h : Blk w f (acells m p key val ver (actV 275 f) false ok got) 321) (hM : MemAt w m cb C)
    (hf : f ≠ m ∧ f ≠ cb) (hC : C.length = 768) (hp : p < C.length) (hv : K0 C p < 2 ^ 64) (b : Bool) (hb : ((K0 C p : Int) % 4 != 2) = b) :
    Calls Tryz.prog 255 #[.pointer (some ⟨f, 0, none⟩)] w fun e w' => e = .returned (.bool b) ∧
      Blk w' f (acells m p key val (K0 C p) (actV 281 f) b ok got) 321 ∧ MemAt w' m cb C ∧ Fr [f, m] w w' := by
  have h' := h
  have C1 := @alooks_any f m cb C p key val ver got (actV 275 f) ok w h hM hf hp hv hC b hb
  have HC := Lib.hid C1
  clear C1
  unfold acells at h
  have c5 := h.cell 5 rfl
  have c6 := h.cell 6 rfl
  clear hM hf hC
  go_enter Tryz.func255, Tryz.ntmps255
  go_wp2_with fail
  refine HC.out.mono ?_
  rintro e w1 ⟨rfl, hB, hM1, hF⟩
  have hB' := hB
  unfold acells at hB
  have d6 := hB.cell 6 rfl
  go_wp2
  go_ret
  exact ⟨rfl, hB', hM1, hF⟩

theorem sacompares_any (f m cb : Nat) (C : List Nat) (p key val ver got : Nat) (ok : Bool) (w : World) (h : Blk w f (acells m p key val ver (actV 281 f) false ok got) 321) (hM : MemAt w m cb C)
    (hf : f ≠ m ∧ f ≠ cb) (hC : C.length = 768) (hp : p + 1 < C.length) (b : Bool) (hb : ((K0 C (p + 1) : Int) != (key : Int)) = b) :
    Calls Tryz.prog 255 #[.pointer (some ⟨f, 0, none⟩)] w fun e w' => e = .returned (.bool b) ∧
      Blk w' f (acells m p key val ver (actV 284 f) b ok got) 321 ∧ MemAt w' m cb C ∧ Fr [f, m] w w' := by
  have h' := h
  have C1 := @acompares_any f m cb C p key val ver got (actV 281 f) ok w h hM hf hC hp b hb
  have HC := Lib.hid C1
  clear C1
  unfold acells at h
  have c5 := h.cell 5 rfl
  have c6 := h.cell 6 rfl
  clear hM hf hC
  go_enter Tryz.func255, Tryz.ntmps255
  go_wp2_with fail
  refine HC.out.mono ?_
  rintro e w1 ⟨rfl, hB, hM1, hF⟩
  have hB' := hB
  unfold acells at hB
  have d6 := hB.cell 6 rfl
  go_wp2
  go_ret
  exact ⟨rfl, hB', hM1, hF⟩

theorem sareads_any (f m cb : Nat) (C : List Nat) (p key val ver got : Nat) (ok : Bool) (w : World) (h : Blk w f (acells m p key val ver (actV 284 f) false ok got) 321) (hM : MemAt w m cb C)
    (hf : f ≠ m ∧ f ≠ cb) (hC : C.length = 768) (hp : p + 2 < C.length) :
    Calls Tryz.prog 255 #[.pointer (some ⟨f, 0, none⟩)] w fun e w' => e = .returned (.bool false) ∧
      Blk w' f (acells m p key val ver (actV 288 f) false ok (K0 C (p + 2))) 321 ∧ MemAt w' m cb C ∧ Fr [f, m] w w' := by
  have h' := h
  have C1 := @areads_any f m cb C p key val ver got (actV 284 f) ok w h hM hf hC hp
  have HC := Lib.hid C1
  clear C1
  unfold acells at h
  have c5 := h.cell 5 rfl
  have c6 := h.cell 6 rfl
  clear hM hf hC
  go_enter Tryz.func255, Tryz.ntmps255
  go_wp2_with fail
  refine HC.out.mono ?_
  rintro e w1 ⟨rfl, hB, hM1, hF⟩
  have hB' := hB
  unfold acells at hB
  have d6 := hB.cell 6 rfl
  go_wp2
  go_ret
  exact ⟨rfl, hB', hM1, hF⟩

theorem satrusts_any (f m cb : Nat) (C : List Nat) (p key val ver got : Nat) (ok : Bool) (w : World) (h : Blk w f (acells m p key val ver (actV 288 f) false ok got) 321) (hM : MemAt w m cb C)
    (hf : f ≠ m ∧ f ≠ cb) (hC : C.length = 768) (hp : p < C.length) (hb : ((K0 C p : Int) == (ver : Int)) = true) :
    Calls Tryz.prog 255 #[.pointer (some ⟨f, 0, none⟩)] w fun e w' => e = .returned (.bool true) ∧
      Blk w' f (acells m p key val ver (actV 288 f) true true got) 321 ∧ MemAt w' m cb C ∧ Fr [f, m] w w' := by
  have h' := h
  have C1 := @atrusts_any f m cb C p key val ver got (actV 288 f) ok w h hM hf hC hp hb
  have HC := Lib.hid C1
  clear C1
  unfold acells at h
  have c5 := h.cell 5 rfl
  have c6 := h.cell 6 rfl
  clear hM hf hC
  go_enter Tryz.func255, Tryz.ntmps255
  go_wp2_with fail
  refine HC.out.mono ?_
  rintro e w1 ⟨rfl, hB, hM1, hF⟩
  have hB' := hB
  unfold acells at hB
  have d6 := hB.cell 6 rfl
  go_wp2
  go_ret
  exact ⟨rfl, hB', hM1, hF⟩

theorem saopens_any (f m cb : Nat) (C : List Nat) (p key val ver got : Nat) (ok : Bool) (w : World) (h : Blk w f (acells m p key val ver (actV 276 f) false ok got) 321) (hM : MemAt w m cb C)
    (hf : f ≠ m ∧ f ≠ cb) (hC : C.length = 768) (hp : p < C.length) (hv : K0 C p < 2 ^ 64) (he : K0 C p % 2 = 0) :
    Calls Tryz.prog 255 #[.pointer (some ⟨f, 0, none⟩)] w fun e w' => e = .returned (.bool false) ∧
      Blk w' f (acells m p key val (K0 C p) (actV 282 f) false ok got) 321 ∧ MemAt w' m cb C ∧ Fr [f, m] w w' := by
  have h' := h
  have C1 := @aopens_any f m cb C p key val ver got (actV 276 f) ok w h hM hf hC hp hv he
  have HC := Lib.hid C1
  clear C1
  unfold acells at h
  have c5 := h.cell 5 rfl
  have c6 := h.cell 6 rfl
  clear hM hf hC
  go_enter Tryz.func255, Tryz.ntmps255
  go_wp2_with fail
  refine HC.out.mono ?_
  rintro e w1 ⟨rfl, hB, hM1, hF⟩
  have hB' := hB
  unfold acells at hB
  have d6 := hB.cell 6 rfl
  go_wp2
  go_ret
  exact ⟨rfl, hB', hM1, hF⟩

theorem salocks_any (f m cb : Nat) (C : List Nat) (p key val ver got : Nat) (ok : Bool) (w : World) (h : Blk w f (acells m p key val ver (actV 282 f) false ok got) 321) (hM : MemAt w m cb C)
    (hf : f ≠ m ∧ f ≠ cb) (hC : C.length = 768) (hp : p < C.length) (hv : ver < 2 ^ 64) (he : ver % 2 = 0) (hver : K0 C p = ver) :
    Calls Tryz.prog 255 #[.pointer (some ⟨f, 0, none⟩)] w fun e w' => e = .returned (.bool false) ∧
      Blk w' f (acells m p key val ver (actV 285 f) false ok got) 321 ∧ MemAt w' m cb (C.set p (ver + 1)) ∧ Fr [f, m, cb] w w' := by
  have h' := h
  have C1 := @alocks_any f m cb C p key val ver got (actV 282 f) ok w h hM hf hC hp hv he hver
  have HC := Lib.hid C1
  clear C1
  unfold acells at h
  have c5 := h.cell 5 rfl
  have c6 := h.cell 6 rfl
  clear hM hf hC
  go_enter Tryz.func255, Tryz.ntmps255
  go_wp2_with fail
  refine HC.out.mono ?_
  rintro e w1 ⟨rfl, hB, hM1, hF⟩
  have hB' := hB
  unfold acells at hB
  have d6 := hB.cell 6 rfl
  go_wp2
  go_ret
  exact ⟨rfl, hB', hM1, hF⟩

theorem sakeys_any (f m cb : Nat) (C : List Nat) (p key val ver got : Nat) (ok : Bool) (w : World) (h : Blk w f (acells m p key val ver (actV 285 f) false ok got) 321) (hM : MemAt w m cb C)
    (hf : f ≠ m ∧ f ≠ cb) (hC : C.length = 768) (hp : p + 1 < C.length) :
    Calls Tryz.prog 255 #[.pointer (some ⟨f, 0, none⟩)] w fun e w' => e = .returned (.bool false) ∧
      Blk w' f (acells m p key val ver (actV 290 f) false ok got) 321 ∧ MemAt w' m cb (C.set (p + 1) key) ∧ Fr [f, m, cb] w w' := by
  have h' := h
  have C1 := @akeys_any f m cb C p key val ver got (actV 285 f) ok w h hM hf hC hp
  have HC := Lib.hid C1
  clear C1
  unfold acells at h
  have c5 := h.cell 5 rfl
  have c6 := h.cell 6 rfl
  clear hM hf hC
  go_enter Tryz.func255, Tryz.ntmps255
  go_wp2_with fail
  refine HC.out.mono ?_
  rintro e w1 ⟨rfl, hB, hM1, hF⟩
  have hB' := hB
  unfold acells at hB
  have d6 := hB.cell 6 rfl
  go_wp2
  go_ret
  exact ⟨rfl, hB', hM1, hF⟩

theorem savals_any (f m cb : Nat) (C : List Nat) (p key val ver got : Nat) (ok : Bool) (w : World) (h : Blk w f (acells m p key val ver (actV 290 f) false ok got) 321) (hM : MemAt w m cb C)
    (hf : f ≠ m ∧ f ≠ cb) (hC : C.length = 768) (hp : p + 2 < C.length) :
    Calls Tryz.prog 255 #[.pointer (some ⟨f, 0, none⟩)] w fun e w' => e = .returned (.bool false) ∧
      Blk w' f (acells m p key val ver (actV 294 f) false ok got) 321 ∧ MemAt w' m cb (C.set (p + 2) val) ∧ Fr [f, m, cb] w w' := by
  have h' := h
  have C1 := @avals_any f m cb C p key val ver got (actV 290 f) ok w h hM hf hC hp
  have HC := Lib.hid C1
  clear C1
  unfold acells at h
  have c5 := h.cell 5 rfl
  have c6 := h.cell 6 rfl
  clear hM hf hC
  go_enter Tryz.func255, Tryz.ntmps255
  go_wp2_with fail
  refine HC.out.mono ?_
  rintro e w1 ⟨rfl, hB, hM1, hF⟩
  have hB' := hB
  unfold acells at hB
  have d6 := hB.cell 6 rfl
  go_wp2
  go_ret
  exact ⟨rfl, hB', hM1, hF⟩

theorem saopensAgain_any (f m cb : Nat) (C : List Nat) (p key val ver got : Nat) (ok : Bool) (w : World) (h : Blk w f (acells m p key val ver (actV 294 f) false ok got) 321) (hM : MemAt w m cb C)
    (hf : f ≠ m ∧ f ≠ cb) (hC : C.length = 768) (hp : p < C.length) (hv : ver < 2 ^ 64) :
    Calls Tryz.prog 255 #[.pointer (some ⟨f, 0, none⟩)] w fun e w' => e = .returned (.bool true) ∧
      Blk w' f (acells m p key val ver (actV 294 f) true ok got) 321 ∧ MemAt w' m cb (C.set p (verF ver)) ∧ Fr [f, m, cb] w w' := by
  have h' := h
  have C1 := @aopensAgain_any f m cb C p key val ver got (actV 294 f) ok w h hM hf hC hp hv
  have HC := Lib.hid C1
  clear C1
  unfold acells at h
  have c5 := h.cell 5 rfl
  have c6 := h.cell 6 rfl
  clear hM hf hC
  go_enter Tryz.func255, Tryz.ntmps255
  go_wp2_with fail
  refine HC.out.mono ?_
  rintro e w1 ⟨rfl, hB, hM1, hF⟩
  have hB' := hB
  unfold acells at hB
  have d6 := hB.cell 6 rfl
  go_wp2
  go_ret
  exact ⟨rfl, hB', hM1, hF⟩

end Go.Proofs.YtiojnjihbidbiaaGreat
