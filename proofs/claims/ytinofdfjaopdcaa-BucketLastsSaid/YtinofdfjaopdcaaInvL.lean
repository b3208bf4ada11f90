/- A store behind a flush and a crash, in plain Lean. -/
import Derived.Test.YtinofdfjaopdcaaPlain
import Derived.Test.YtinofdfjaopdcaaImgM
namespace Go.Proofs.Ytinofdfjaopdcaa
open Go.RowKit
set_option linter.unusedSimpArgs false
set_option linter.unusedVariables false

theorem more_ne (l : Int) : Dev.more l ≠ l := by
  unfold Dev.more wrap64
  omega
theorem more2_ne (l : Int) : Dev.more (Dev.more l) ≠ l := by
  unfold Dev.more wrap64
  omega
theorem PageIs.same {D D' : Dev} {i : Nat} {l : List Item} (h : PageIs D i l) (hp : D'.page i = D.page i) : PageIs D' i l := by
  unfold PageIs at h ⊢
  rw [hp]; exact h
theorem OkSt.isOk {D : Dev} {B : Sto} {ls : List (List Item)} (h : OkSt D B ls) : D.Ok := ⟨h.off, h.armed⟩
theorem OkSt.flushed {D : Dev} {B : Sto} {ls : List (List Item)} (h : OkSt D B ls) : OkSt D.flush B ls ∧ D.flush.still ∧ D.flush.n = D.n := by
  obtain ⟨f1, f2, f3⟩ := h.isOk.flush_
  rw [f1]
  exact ⟨{ off := h.off, armed := h.armed, los := h.los, first := h.first, len := h.len, pos := h.pos, fits := h.fits, pg := fun i l hi => (h.pg i l hi).same (Dev.settled_page D i) }, fun i => rfl, rfl⟩
theorem OkSt.off_E {D : Dev} {B : Sto} {ls : List (List Item)} (h : OkSt D B ls) (picks : List UInt8) (i : Int) : B.lE (D.crash picks) i = 4 ∧ B.lE (D.crash picks).on i = 4 := by
  have e1 : (D.crash picks).losses = Dev.more D.losses := rfl
  have e2 : (D.crash picks).on.losses = Dev.more (Dev.more D.losses) := rfl
  unfold Sto.lE
  rw [e1, e2, h.los, if_neg (fun e => more_ne _ e.symm), if_neg (fun e => more2_ne _ e.symm)]
  exact ⟨rfl, rfl⟩
/-- opened anew behind the crash -/
theorem OkSt.anew {D : Dev} {B : Sto} {ls : List (List Item)} (h : OkSt D B ls) (hs : D.still) (picks : List UInt8) {pages : Nat} (hp : ls.length = pages) : OkSt (D.crash picks).on (Sto.open_ (D.crash picks).on 0 pages) ls := by
  obtain ⟨c1, c2, c3⟩ := Dev.crash_on hs picks
  have hl : (Sto.open_ (D.crash picks).on 0 pages).fs.length = pages := by unfold Sto.open_; rw [List.length_map, List.length_range]
  have h1 := h.len
  have h2 := h.pos
  have h3 := h.fits
  exact { off := c1.on, armed := c1.free, los := rfl, first := rfl, len := by rw [hl, hp], pos := by rw [hl]; omega, fits := by rw [hl, c2]; omega, pg := fun i l hi => (h.pg i l hi).same (c3 i) }
theorem OkSt.anew_lE {D : Dev} {B : Sto} {ls : List (List Item)} (h : OkSt D B ls) (hs : D.still) (picks : List UInt8) {pages : Nat} (hp : ls.length = pages) (i : Nat) (hi : i < pages) : ({ losses := (D.crash picks).on.losses, first := ((0 : Nat) : Int), fs := [] } : Sto).lE (D.crash picks).on i = 0 :=
  ((h.anew hs picks hp).lE_ (i := i) (l := ls[i]'(by omega)) (List.getElem?_eq_getElem (by omega))).1
end Go.Proofs.Ytinofdfjaopdcaa
