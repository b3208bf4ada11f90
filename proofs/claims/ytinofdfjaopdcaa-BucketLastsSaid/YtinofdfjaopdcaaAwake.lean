/- cellaretlaw8.awake. -/
import Derived.Test.YtinofdfjaopdcaaLawC
import Derived.Test.YtinofdfjaopdcaaHan
namespace Go.Proofs.Ytinofdfjaopdcaa
open Go.RowKit
set_option linter.unusedSimpArgs false
set_option linter.unusedVariables false

abbrev kA : ByteArray := ⟨#[97]⟩
abbrev kB : ByteArray := ⟨#[98]⟩
abbrev kZ : ByteArray := ⟨#[122, 101, 98, 114, 97]⟩
def a1 : Item := itI kA 1
def b2 : Item := itI kB 2
def a3 : Item := itI kA 3
def sB0 : Sto := Sto.open_ (Dev.new 1) ((0 : Nat) : Int) 1
def sB3 : Sto := ((sB0.add a1).add b2).add a3
theorem aw_may_b : sB3.may kB = true := by decide +kernel
theorem aw_may_z : sB3.may kZ = false := by decide +kernel
theorem aw_l1 : pleft [] a1 = [a1] := by decide +kernel
theorem aw_l2 : pleft [a1] b2 = [a1, b2] := by decide +kernel
theorem aw_l3 : pleft [a1, b2] a3 = [b2, a3] := by decide +kernel
theorem aw_l4 : rid [b2, a3] kB = [a3] := by decide +kernel
theorem aw_good : a1.good = true ∧ b2.good = true ∧ a3.good = true ∧ a1.size ≤ 120 ∧ b2.size ≤ 120 ∧ a3.size ≤ 120 := by decide +kernel
theorem no_one {B : Sto} (h : B.fs.length = 1) (key : ByteArray) : B.no key = 0 := by unfold Sto.no; rw [h]; exact Nat.mod_one _
theorem add_len (B : Sto) (x : Item) : (B.add x).fs.length = B.fs.length := by simp [Sto.add]

def sD1 : Dev := sB0.putD (Dev.new 1) a1
def sB1 : Sto := sB0.add a1
def sD2 : Dev := sB1.putD sD1 b2
def sB2 : Sto := sB1.add b2
def sD3 : Dev := sB2.putD sD2 a3
def sD4 : Dev := sB3.dropD sD3 kB
theorem sB_len : sB0.fs.length = 1 ∧ sB1.fs.length = 1 ∧ sB2.fs.length = 1 ∧ sB3.fs.length = 1 := by decide +kernel

theorem aw_new (w : World) : Calls Try.prog 16 #[.int .i64 1] w fun e w' => ∃ h : DevH, e = .returned (.tuple #[.pointer (some ⟨h.d, 0, none⟩), .int .i64 0]) ∧ DevAt w' h (Dev.new 1) ∧ Chg No w w' ∧ ∀ k, h.foot k → w.heap.size ≤ k := new_calls 1 w (by decide) (by decide)
theorem aw_open {w : World} {h : DevH} (hd : DevAt w h (Dev.new 1)) : Calls Try.prog 25 #[.pointer (some ⟨h.d, 0, none⟩), .int .i64 0, .int .i64 1] w fun e w' => ∃ t : StoH, e = .returned (.tuple #[.pointer (some ⟨t.s, 0, none⟩), .int .i64 0]) ∧
      Han w' h t (Dev.new 1) sB0 [[]] ∧ Chg h.foot w w' ∧ (∀ p ∈ t.ps, w.heap.size ≤ p.2) := hopen 1 1 hd (by decide) (by decide) (by decide)
theorem aw_put1 {w : World} {h : DevH} {t : StoH} (H : Han w h t (Dev.new 1) sB0 [[]]) : Calls Try.prog 26 #[.pointer (some ⟨t.s, 0, none⟩), itemV a1] w fun e w' => ∃ v, e = .returned (.tuple #[v, .int .i64 0]) ∧
      Han w' h t sD1 sB1 [[a1]] ∧ Chg (Own h t) w w' := by
  refine (hput H a1 aw_good.1 aw_good.2.2.2.1 (l := []) (by rw [no_one sB_len.1]; rfl)).mono ?_
  rintro e w' ⟨v, rfl, _, h2, hc⟩
  rw [no_one sB_len.1, aw_l1] at h2
  exact ⟨v, rfl, h2, hc⟩
theorem aw_put2 {w : World} {h : DevH} {t : StoH} (H : Han w h t sD1 sB1 [[a1]]) : Calls Try.prog 26 #[.pointer (some ⟨t.s, 0, none⟩), itemV b2] w fun e w' => ∃ v, e = .returned (.tuple #[v, .int .i64 0]) ∧
      Han w' h t sD2 sB2 [[a1, b2]] ∧ Chg (Own h t) w w' := by
  refine (hput H b2 aw_good.2.1 aw_good.2.2.2.2.1 (l := [a1]) (by rw [no_one sB_len.2.1]; rfl)).mono ?_
  rintro e w' ⟨v, rfl, _, h2, hc⟩
  rw [no_one sB_len.2.1, aw_l2] at h2
  exact ⟨v, rfl, h2, hc⟩
theorem aw_put3 {w : World} {h : DevH} {t : StoH} (H : Han w h t sD2 sB2 [[a1, b2]]) : Calls Try.prog 26 #[.pointer (some ⟨t.s, 0, none⟩), itemV a3] w fun e w' => ∃ v, e = .returned (.tuple #[v, .int .i64 0]) ∧
      Han w' h t sD3 sB3 [[b2, a3]] ∧ Chg (Own h t) w w' := by
  refine (hput H a3 aw_good.2.2.1 aw_good.2.2.2.2.2 (l := [a1, b2]) (by rw [no_one sB_len.2.2.1]; rfl)).mono ?_
  rintro e w' ⟨v, rfl, _, h2, hc⟩
  rw [no_one sB_len.2.2.1, aw_l3] at h2
  exact ⟨v, rfl, h2, hc⟩
theorem aw_items {w : World} {h : DevH} {t : StoH} (H : Han w h t sD3 sB3 [[b2, a3]]) : Calls Try.prog 31 #[.pointer (some ⟨t.s, 0, none⟩)] w fun e w' => ∃ v, e = .returned (.tuple #[v, .int .i64 0]) ∧
      w'.ownsRow w.heap.size tItem 5 v 2 (its [b2, a3]) ∧ Han w' h t sD3 sB3 [[b2, a3]] ∧ Chg (Own h t) w w' := hitems H
theorem aw_get1 {w : World} {h : DevH} {t : StoH} (H : Han w h t sD3 sB3 [[b2, a3]]) : Calls Try.prog 29 #[.pointer (some ⟨t.s, 0, none⟩), .string kB] w fun e w' => e = .returned (.tuple #[itemV b2, .int .i64 0]) ∧ Han w' h t sD3 sB3 [[b2, a3]] ∧ Chg (Own h t) w w' := by
  have hf : [b2, a3].find? (keyed kB) = some b2 := by decide +kernel
  have h1 := hget H kB (by decide) (l := [b2, a3]) (by rw [no_one sB_len.2.2.2]; rfl) aw_may_b
  rw [hf] at h1
  exact h1
theorem aw_drop {w : World} {h : DevH} {t : StoH} (H : Han w h t sD3 sB3 [[b2, a3]]) : Calls Try.prog 27 #[.pointer (some ⟨t.s, 0, none⟩), .string kB] w fun e w' => e = .returned (.int .i64 0) ∧ Han w' h t sD4 sB3 [[a3]] ∧ Chg (Own h t) w w' := by
  have h1 := hdrop H kB (by decide) (l := [b2, a3]) (by rw [no_one sB_len.2.2.2]; rfl)
  rw [no_one sB_len.2.2.2, aw_l4, if_neg (by decide +kernel)] at h1
  exact h1
theorem aw_get2 {w : World} {h : DevH} {t : StoH} (H : Han w h t sD4 sB3 [[a3]]) : Calls Try.prog 29 #[.pointer (some ⟨t.s, 0, none⟩), .string kB] w fun e w' => e = .returned (.tuple #[itemV Item.zero, .int .i64 5]) ∧ Han w' h t sD4 sB3 [[a3]] ∧ Chg (Own h t) w w' := by
  have hf : [a3].find? (keyed kB) = none := by decide +kernel
  have h1 := hget H kB (by decide) (l := [a3]) (by rw [no_one sB_len.2.2.2]; rfl) aw_may_b
  rw [hf] at h1
  exact h1
end Go.Proofs.Ytinofdfjaopdcaa
