/- The model's Key and Copy, walked. -/
import Derived.Test.YtedkoplgfidjlaaDoorMdlJ
import Derived.Shelf.SlMaps.Clone
namespace Go.Proofs.YtedkoplgfidjlaaDoor
open Go.RowKit
open Go.ChangeMaps (setBlock)
attribute [local go_sem ↓] Go.wp_at_zero Go.wp_at_succ
set_option linter.unusedSimpArgs false
set_option linter.unusedVariables false

section
variable {w w' : World} {m M : Nat} {es : Its}
set_option maxRecDepth 100000 in
set_option maxHeartbeats 4000000 in
/-- Key, of a Get -/
theorem mkey_calls (h : Mp w m M es) (hmM : m ≠ M) (c : CmdP) {ks : List ByteArray} {wc wt : Bool} {exp : Int} (hev : evOf c = .get ks wc wt exp) {A : Option Addr} {n : Nat} (hk : KeysAt w A n c.ks) (cp : Nat) (he : tmOk exp) (key : ByteArray) (now : Int) (hn : tmOk now) (v : UInt64) :
    Calls Tryd.prog 17 #[.pointer (some ⟨m, 0, none⟩), .agg (cmdc c A n cp), .string key, .int .i64 now, .int .u64 v.toNat] w fun e w' => (∃ u, e = .returned u ∧ OneR w w' m M es key now wt u) ∧ Chg (fun k => k = M) w w' := by
  have HO := fun W => Lib.hid (fun hc : Chg No w W => of_calls c (hk.chgNo hc) cp)
  simp only [hev] at HO
  have HS := fun W A2 n2 cp2 => Lib.hid (fun hc : Chg No w W => mone_calls (h.chgNo hc) hmM A2 n2 cp2 wc wt exp he key now hn v)
  clear hev h hk hn he
  obtain ⟨what, verb, ks1, data, flags, exp1, cas, by_, wc1, wt1, dn, qt⟩ := c
  simp only [cmdc] at HO ⊢
  go_enter Tryd.func17, Tryd.ntmps17
  go_wp2_with fail
  refine ((HO _).out (by (repeat (first | (with_reducible exact Chg.refl _ _) | (with_reducible assumption) | (with_reducible refine Chg.drewN ?_ _) | (with_reducible refine Chg.drew ?_) | (with_reducible refine Chg.alloc ?_ _) | (with_reducible refine Chg.setCell ?_ (by first | (left; simp [DevH.foot]; done) | (right; simp; done) | (right; simp; omega)) _))))).mono ?_
  rintro e w1 ⟨⟨v0, rfl, hv⟩, hc1⟩
  simp only [EvAt] at hv
  obtain ⟨A2, n2, cp2, rfl, hk2⟩ := hv
  have HC1 : Hid (Chg No w w1) := Chg.trans (by (repeat (first | (with_reducible exact Chg.refl _ _) | (with_reducible assumption) | (with_reducible refine Chg.drewN ?_ _) | (with_reducible refine Chg.drew ?_) | (with_reducible refine Chg.alloc ?_ _) | (with_reducible refine Chg.setCell ?_ (by first | (left; simp [DevH.foot]; done) | (right; simp; done) | (right; simp; omega)) _)))) hc1
  clear hc1 HO hk2
  go_wp2_with fail
  refine ((HS _ _ _ _).out (HC1.out.trans (by (repeat (first | (with_reducible exact Chg.refl _ _) | (with_reducible assumption) | (with_reducible refine Chg.drewN ?_ _) | (with_reducible refine Chg.drew ?_) | (with_reducible refine Chg.alloc ?_ _) | (with_reducible refine Chg.setCell ?_ (by first | (left; simp [DevH.foot]; done) | (right; simp; done) | (right; simp; omega)) _)))))).mono ?_
  rintro e w5 ⟨⟨u, rfl, hor⟩, hc5⟩
  have HR : Hid (OneR w w5 m M es key now wt u) := by
    have hs := (HC1.out.trans (by (repeat (first | (with_reducible exact Chg.refl _ _) | (with_reducible assumption) | (with_reducible refine Chg.drewN ?_ _) | (with_reducible refine Chg.drew ?_) | (with_reducible refine Chg.alloc ?_ _) | (with_reducible refine Chg.setCell ?_ (by first | (left; simp [DevH.foot]; done) | (right; simp; done) | (right; simp; omega)) _))) : Chg No w1 _)).size
    rcases hor with h1 | ⟨x, es', h1, ⟨g, cs, h2, h3, h4, h5, h6⟩, h7⟩
    · exact .inl h1
    · exact .inr ⟨x, es', h1, ⟨g, cs, h2, h3, h4, h5, by have := HC1.out.size; simp at h6; omega⟩, h7⟩
  have HC5 : Hid (Chg (fun k => k = M) w w5) := (HC1.out.trans (by (repeat (first | (with_reducible exact Chg.refl _ _) | (with_reducible assumption) | (with_reducible refine Chg.drewN ?_ _) | (with_reducible refine Chg.drew ?_) | (with_reducible refine Chg.alloc ?_ _) | (with_reducible refine Chg.setCell ?_ (by first | (left; simp [DevH.foot]; done) | (right; simp; done) | (right; simp; omega)) _))) : Chg No w1 _)).andM hc5
  clear hor hc5 HS
  go_wp2_with fail
  go_ret
  exact ⟨⟨u, rfl, HR.out⟩, HC5.out⟩
/-- maps.Clone -/
theorem mclone_calls (h : Mp w m M es) :
    Calls Tryd.prog 30 #[.map (some M)] w fun e w' => e = .returned (.map (some w.heap.size)) ∧ MapIs skey w' w.heap.size (imap es) ∧ w'.heap.size = w.heap.size + 1 ∧ Chg No w w' := by
  obtain ⟨arr, clock, hb, hm, hn, h1, h2⟩ := h.map
  refine (AnyW.maps_Clone (ρ := Tryd.cloneA_ren) Tryd.cloneA M arr clock w hb).mono ?_
  rintro e w' ⟨rfl, rfl⟩
  exact ⟨rfl, ⟨arr, clock, heap_alloc_new _ _, hm, hn, h1, h2⟩, by simp, by (repeat (first | (with_reducible exact Chg.refl _ _) | (with_reducible assumption) | (with_reducible refine Chg.drewN ?_ _) | (with_reducible refine Chg.drew ?_) | (with_reducible refine Chg.alloc ?_ _) | (with_reducible refine Chg.setCell ?_ (by first | (left; simp [DevH.foot]; done) | (right; simp; done) | (right; simp; omega)) _)))⟩
set_option maxRecDepth 100000 in
/-- Copy -/
theorem mcopy_calls (h : Mp w m M es) :
    Calls Tryd.prog 13 #[.pointer (some ⟨m, 0, none⟩)] w fun e w' => (∃ m2 M2, e = .returned (.pointer (some ⟨m2, 0, none⟩)) ∧ Mp w' m2 M2 es ∧ w.heap.size ≤ m2 ∧ w.heap.size ≤ M2 ∧ m2 ≠ M2) ∧ Chg No w w' := by
  have c0 := h.box.cell 0
  simp at c0
  have hlt := h.box.lt
  have HC := fun W => Lib.hid (fun hc : Chg No w W => mclone_calls (h.chgNo hc))
  have HOK := Lib.hid h.ok
  clear h
  go_enter Tryd.func13, Tryd.ntmps13
  go_wp2_with fail
  refine ((HC _).out (by (repeat (first | (with_reducible exact Chg.refl _ _) | (with_reducible assumption) | (with_reducible refine Chg.drewN ?_ _) | (with_reducible refine Chg.drew ?_) | (with_reducible refine Chg.alloc ?_ _) | (with_reducible refine Chg.setCell ?_ (by first | (left; simp [DevH.foot]; done) | (right; simp; done) | (right; simp; omega)) _))))).mono ?_
  rintro e w1 ⟨rfl, hm, hs, hc⟩
  have HM := Lib.hid (And.intro hm hc)
  have HS := Lib.hid hs
  clear hm hc hs HC
  go_wp2_with fail
  go_ret
  exact ⟨⟨_, _, rfl, ⟨Blk.new _ _ _, HM.out.1.alloc _, HOK.out⟩, HM.out.2.size, Nat.le_refl _, by have := HS.out; omega⟩, HM.out.2.alloc _⟩
end
end Go.Proofs.YtedkoplgfidjlaaDoor
