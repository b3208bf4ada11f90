/- Commands: event.Keys and Good, walked. -/
import Derived.Test.YtedkoplgfidjlaaDoorMdlG
import Derived.Test.YtedkoplgfidjlaaDoorMdlT
namespace Go.Proofs.YtedkoplgfidjlaaDoor
open Go.RowKit
attribute [local go_sem ↓] Go.wp_at_zero Go.wp_at_succ
set_option linter.unusedSimpArgs false
set_option linter.unusedVariables false

def kA : ByteArray := ⟨#[97]⟩
def NokR (k : ByteArray) (e : Ending) : Prop := ∃ b : Bool, (b = false → k.size ≤ 250) ∧ (k = kA → b = false) ∧ e = .returned (.bool b)
theorem nok_calls {w : World} (hg : Glob w) (k : ByteArray) :
    Calls Tryd.prog 36 #[.string k] w fun e w' => NokR k e ∧ Chg No w w' := by
  have HK := Lib.hid (wkey_calls hg k)
  clear hg
  go_enter Tryd.func36, Tryd.ntmps36
  go_wp2_with fail
  refine HK.out.mono ?_
  rintro e w1 ⟨⟨b, h1, h2, rfl⟩, hc⟩
  have HH : Hid ((b = true → k.size ≤ 250) ∧ (k = kA → b = true) ∧ Chg No w w1) := ⟨fun h => (h1 h).2, h2, hc⟩
  clear h1 h2 hc HK
  go_wp2_with fail
  go_ret
  exact ⟨⟨!b, (fun h => HH.out.1 (by simpa using h)), (fun h => by simp [HH.out.2.1 h]), rfl⟩, HH.out.2.2⟩
def IdxR (ks : List ByteArray) (i : Int) : Prop := (i < 0 → ∀ k ∈ ks, k.size ≤ 250) ∧ ((∀ k ∈ ks, k = kA) → i < 0)
set_option maxRecDepth 100000 in
theorem idx_calls {w : World} (hg : Glob w) {A : Option Addr} {n : Nat} {ks : List ByteArray} (h : KeysAt w A n ks) (c : Nat) :
    Calls Tryd.prog 47 #[.slice A n c, .func (.func 36) #[] #[]] w fun e w' => (∃ i : Int, e = .returned (.int .i64 i) ∧ IdxR ks i) ∧ Chg No w w' := by
  obtain ⟨hr, hn, hb⟩ := h
  have HR := Lib.hid hr
  have HN := Lib.hid hn
  have HG := Lib.hid hg
  clear hr hn hg
  go_enter Tryd.func47, Tryd.ntmps47
  go_wp2_with fail
  go_loopg [8] n (fun g v8 wr => ∃ k : Nat, v8 = .int .i64 k ∧ k ≤ n ∧ g = n - k ∧ Hid (Chg No w wr ∧ ∀ x ∈ ks.take k, x.size ≤ 250))
  case atStart => exact ⟨0, rfl, by omega, rfl, ⟨Chg.refl _ _, by simp⟩⟩
  case round =>
    obtain ⟨k, rfl, hk, rfl, H⟩ := hrel
    by_cases h0 : k < n
    · obtain ⟨x, hx⟩ : ∃ x, ks[k]? = some x := ⟨_, List.getElem?_eq_getElem (by have := HN.out; omega)⟩
      have hr1 := HR.out.chg H.out.1 (fun _ _ _ _ h => h)
      obtain ⟨g, off, rfl, hgl, hc⟩ := hr1.at_ h0
      have c0 := hc k (.string x) (by rw [List.getElem?_map, hx]; rfl)
      have HX := Lib.hid hx
      have HT := Lib.hid (nok_calls (HG.out.chgNo H.out.1) x)
      clear hx hr1 hc
      go_wp2_with fail
      refine HT.out.mono ?_
      rintro e w1 ⟨⟨b, hb1, hb2, rfl⟩, hc1⟩
      have HC1 := Lib.hid (H.out.1.trans hc1)
      cases b with
      | true =>
        have HA : Hid (x ≠ kA) := fun h => by cases hb2 h
        clear hb1 hb2 hc1
        go_wp2_with fail
        go_ret
        refine ⟨⟨(k : Int), rfl, fun h => by omega, fun h => ?_⟩, HC1.out⟩
        exact absurd (h x (List.mem_of_getElem? HX.out)) HA.out
      | false =>
        have HA := Lib.hid (hb1 rfl)
        clear hb1 hb2 hc1
        go_wp2_with fail
        go_roundg (n - (k + 1))
        case measure => omega
        case rel =>
          refine ⟨k + 1, by go_num, by omega, rfl, HC1.out, ?_⟩
          intro y hy
          rw [List.take_add_one, HX.out] at hy
          rcases List.mem_append.1 hy with hy | hy
          · exact H.out.2 y hy
          · obtain rfl : y = x := by simpa using hy
            exact HA.out
    · go_wp2_with fail
      go_ret
      refine ⟨⟨-1, rfl, fun _ y hy => ?_, fun _ => by decide⟩, H.out.1⟩
      exact H.out.2 y (by rw [List.take_of_length_le (by have := HN.out; omega)]; exact hy)
def ConR (ks : List ByteArray) (e : Ending) : Prop := ∃ b : Bool, (b = false → ∀ k ∈ ks, k.size ≤ 250) ∧ ((∀ k ∈ ks, k = kA) → b = false) ∧ e = .returned (.bool b)
theorem conf_calls {w : World} (hg : Glob w) {A : Option Addr} {n : Nat} {ks : List ByteArray} (h : KeysAt w A n ks) (c : Nat) :
    Calls Tryd.prog 38 #[.slice A n c, .func (.func 36) #[] #[]] w fun e w' => ConR ks e ∧ Chg No w w' := by
  have HI := Lib.hid (idx_calls hg h c)
  clear hg h
  go_enter Tryd.func38, Tryd.ntmps38
  go_wp2_with fail
  refine HI.out.mono ?_
  rintro e w1 ⟨⟨i, rfl, h1, h2⟩, hc⟩
  have HH := Lib.hid (And.intro h1 (And.intro h2 hc))
  clear h1 h2 hc HI
  go_wp2_with fail
  go_ret
  exact ⟨⟨decide (0 ≤ i), (fun h => HH.out.1 (by simpa using h)), (fun h => by have := HH.out.2.1 h; simpa using this), rfl⟩, HH.out.2.2⟩
/-- the keys that a command names -/
def keysOf : Ev → List ByteArray
  | .get ks _ _ _ => ks
  | .store c => [c.key]
  | .arith c => [c.key]
  | .touch key _ _ => [key]
  | .del key _ => [key]
  | _ => []
theorem blkAt {w : World} {k : Nat} {t : TypeId} {cs : Array Value} (h : w.heap.size = k) : Blk (w.alloc (.cells cs t)) k t cs := by subst h; exact Blk.new w t cs
theorem keysAt_one {w : World} {g : Nat} {k : ByteArray} (h : Blk w g tStr #[.string k]) : KeysAt w (some ⟨g, 0, none⟩) 1 [k] :=
  ⟨by have := Rd.ofBlk h (k := 1) (by simp); simpa using this, rfl, by decide⟩
set_option maxRecDepth 100000 in
set_option maxHeartbeats 8000000 in
theorem keys_calls {w : World} (c : CmdP) {A : Option Addr} {n : Nat} (h : KeysAt w A n c.ks) (cp : Nat) :
    Calls Tryd.prog 35 #[.agg (cmdc c A n cp)] w fun e w' => (∃ A' n' c', e = .returned (.slice A' n' c') ∧ KeysAt w' A' n' (keysOf (evOf c))) ∧ Chg No w w' := by
  have HO := fun W => Lib.hid (fun hc : Chg No w W => of_calls c (h.chgNo hc) cp)
  have HK := Lib.hid h
  obtain ⟨ev, hev⟩ : ∃ ev, ev = evOf c := ⟨_, rfl⟩
  simp only [← hev] at HO ⊢
  clear hev h
  obtain ⟨what, verb, ks, data, flags, exp, cas, by_, wc, wt, dn, qt⟩ := c
  simp only [cmdc] at HO ⊢
  go_enter Tryd.func35, Tryd.ntmps35
  cases ev with
  | get ks2 wc2 wt2 exp2 =>
    go_wp2_with fail
    refine ((HO _).out (by (repeat (first | (with_reducible exact Chg.refl _ _) | (with_reducible assumption) | (with_reducible refine Chg.drewN ?_ _) | (with_reducible refine Chg.drew ?_) | (with_reducible refine Chg.alloc ?_ _) | (with_reducible refine Chg.setCell ?_ (by first | (left; simp [DevH.foot]; done) | (right; simp; done) | (right; simp; omega)) _))))).mono ?_
    rintro e w1 ⟨⟨v, rfl, hv⟩, hc1⟩
    have HC1 : Hid (Chg No w w1) := Chg.trans (by (repeat (first | (with_reducible exact Chg.refl _ _) | (with_reducible assumption) | (with_reducible refine Chg.drewN ?_ _) | (with_reducible refine Chg.drew ?_) | (with_reducible refine Chg.alloc ?_ _) | (with_reducible refine Chg.setCell ?_ (by first | (left; simp [DevH.foot]; done) | (right; simp; done) | (right; simp; omega)) _)))) hc1
    simp only [EvAt] at hv
    clear hc1 HO
    obtain ⟨A2, n2, cp2, rfl, hk2⟩ := hv
    have HK2 := Lib.hid hk2
    have HC := fun W => Lib.hid (fun hc : Chg No w1 W => kclone_calls (hk2.chgNo hc) cp2)
    clear hk2
    go_wp2_with fail
    refine ((HC _).out (by (repeat (first | (with_reducible exact Chg.refl _ _) | (with_reducible assumption) | (with_reducible refine Chg.drewN ?_ _) | (with_reducible refine Chg.drew ?_) | (with_reducible refine Chg.alloc ?_ _) | (with_reducible refine Chg.setCell ?_ (by first | (left; simp [DevH.foot]; done) | (right; simp; done) | (right; simp; omega)) _))))).mono ?_
    rintro e w4 ⟨⟨A', c', rfl, hk4⟩, hc4⟩
    have HK4 := Lib.hid hk4
    have HC4 : Hid (Chg No w w4) := HC1.out.trans (Chg.trans (by (repeat (first | (with_reducible exact Chg.refl _ _) | (with_reducible assumption) | (with_reducible refine Chg.drewN ?_ _) | (with_reducible refine Chg.drew ?_) | (with_reducible refine Chg.alloc ?_ _) | (with_reducible refine Chg.setCell ?_ (by first | (left; simp [DevH.foot]; done) | (right; simp; done) | (right; simp; omega)) _)))) hc4)
    clear hk4 hc4 HC
    go_wp2_with fail
    go_ret
    exact ⟨⟨_, _, _, rfl, HK4.out⟩, HC4.out⟩
  | store c2 =>
    go_wp2_with fail
    refine ((HO _).out (by (repeat (first | (with_reducible exact Chg.refl _ _) | (with_reducible assumption) | (with_reducible refine Chg.drewN ?_ _) | (with_reducible refine Chg.drew ?_) | (with_reducible refine Chg.alloc ?_ _) | (with_reducible refine Chg.setCell ?_ (by first | (left; simp [DevH.foot]; done) | (right; simp; done) | (right; simp; omega)) _))))).mono ?_
    rintro e w1 ⟨⟨v, rfl, hv⟩, hc1⟩
    have HC1 : Hid (Chg No w w1) := Chg.trans (by (repeat (first | (with_reducible exact Chg.refl _ _) | (with_reducible assumption) | (with_reducible refine Chg.drewN ?_ _) | (with_reducible refine Chg.drew ?_) | (with_reducible refine Chg.alloc ?_ _) | (with_reducible refine Chg.setCell ?_ (by first | (left; simp [DevH.foot]; done) | (right; simp; done) | (right; simp; omega)) _)))) hc1
    simp only [EvAt] at hv
    clear hc1 HO
    obtain ⟨verb2, key2, data2, flags2, exp2, cas2, quiet2⟩ := c2
    simp only [stc] at hv
    subst hv
    go_wp2_with fail
    go_ret
    exact ⟨⟨_, _, _, rfl, keysAt_one (blkAt (by simp))⟩, HC1.out.trans (by (repeat (first | (with_reducible exact Chg.refl _ _) | (with_reducible assumption) | (with_reducible refine Chg.drewN ?_ _) | (with_reducible refine Chg.drew ?_) | (with_reducible refine Chg.alloc ?_ _) | (with_reducible refine Chg.setCell ?_ (by first | (left; simp [DevH.foot]; done) | (right; simp; done) | (right; simp; omega)) _))))⟩
  | arith c2 =>
    go_wp2_with fail
    refine ((HO _).out (by (repeat (first | (with_reducible exact Chg.refl _ _) | (with_reducible assumption) | (with_reducible refine Chg.drewN ?_ _) | (with_reducible refine Chg.drew ?_) | (with_reducible refine Chg.alloc ?_ _) | (with_reducible refine Chg.setCell ?_ (by first | (left; simp [DevH.foot]; done) | (right; simp; done) | (right; simp; omega)) _))))).mono ?_
    rintro e w1 ⟨⟨v, rfl, hv⟩, hc1⟩
    have HC1 : Hid (Chg No w w1) := Chg.trans (by (repeat (first | (with_reducible exact Chg.refl _ _) | (with_reducible assumption) | (with_reducible refine Chg.drewN ?_ _) | (with_reducible refine Chg.drew ?_) | (with_reducible refine Chg.alloc ?_ _) | (with_reducible refine Chg.setCell ?_ (by first | (left; simp [DevH.foot]; done) | (right; simp; done) | (right; simp; omega)) _)))) hc1
    simp only [EvAt] at hv
    clear hc1 HO
    obtain ⟨key2, by2, down2, quiet2⟩ := c2
    simp only [arc] at hv
    subst hv
    go_wp2_with fail
    go_ret
    exact ⟨⟨_, _, _, rfl, keysAt_one (blkAt (by simp))⟩, HC1.out.trans (by (repeat (first | (with_reducible exact Chg.refl _ _) | (with_reducible assumption) | (with_reducible refine Chg.drewN ?_ _) | (with_reducible refine Chg.drew ?_) | (with_reducible refine Chg.alloc ?_ _) | (with_reducible refine Chg.setCell ?_ (by first | (left; simp [DevH.foot]; done) | (right; simp; done) | (right; simp; omega)) _))))⟩
  | touch key exp q =>
    go_wp2_with fail
    refine ((HO _).out (by (repeat (first | (with_reducible exact Chg.refl _ _) | (with_reducible assumption) | (with_reducible refine Chg.drewN ?_ _) | (with_reducible refine Chg.drew ?_) | (with_reducible refine Chg.alloc ?_ _) | (with_reducible refine Chg.setCell ?_ (by first | (left; simp [DevH.foot]; done) | (right; simp; done) | (right; simp; omega)) _))))).mono ?_
    rintro e w1 ⟨⟨v, rfl, hv⟩, hc1⟩
    have HC1 : Hid (Chg No w w1) := Chg.trans (by (repeat (first | (with_reducible exact Chg.refl _ _) | (with_reducible assumption) | (with_reducible refine Chg.drewN ?_ _) | (with_reducible refine Chg.drew ?_) | (with_reducible refine Chg.alloc ?_ _) | (with_reducible refine Chg.setCell ?_ (by first | (left; simp [DevH.foot]; done) | (right; simp; done) | (right; simp; omega)) _)))) hc1
    simp only [EvAt] at hv
    clear hc1 HO
    subst hv
    go_wp2_with fail
    go_ret
    exact ⟨⟨_, _, _, rfl, keysAt_one (blkAt (by simp))⟩, HC1.out.trans (by (repeat (first | (with_reducible exact Chg.refl _ _) | (with_reducible assumption) | (with_reducible refine Chg.drewN ?_ _) | (with_reducible refine Chg.drew ?_) | (with_reducible refine Chg.alloc ?_ _) | (with_reducible refine Chg.setCell ?_ (by first | (left; simp [DevH.foot]; done) | (right; simp; done) | (right; simp; omega)) _))))⟩
  | del key q =>
    go_wp2_with fail
    refine ((HO _).out (by (repeat (first | (with_reducible exact Chg.refl _ _) | (with_reducible assumption) | (with_reducible refine Chg.drewN ?_ _) | (with_reducible refine Chg.drew ?_) | (with_reducible refine Chg.alloc ?_ _) | (with_reducible refine Chg.setCell ?_ (by first | (left; simp [DevH.foot]; done) | (right; simp; done) | (right; simp; omega)) _))))).mono ?_
    rintro e w1 ⟨⟨v, rfl, hv⟩, hc1⟩
    have HC1 : Hid (Chg No w w1) := Chg.trans (by (repeat (first | (with_reducible exact Chg.refl _ _) | (with_reducible assumption) | (with_reducible refine Chg.drewN ?_ _) | (with_reducible refine Chg.drew ?_) | (with_reducible refine Chg.alloc ?_ _) | (with_reducible refine Chg.setCell ?_ (by first | (left; simp [DevH.foot]; done) | (right; simp; done) | (right; simp; omega)) _)))) hc1
    simp only [EvAt] at hv
    clear hc1 HO
    subst hv
    go_wp2_with fail
    go_ret
    exact ⟨⟨_, _, _, rfl, keysAt_one (blkAt (by simp))⟩, HC1.out.trans (by (repeat (first | (with_reducible exact Chg.refl _ _) | (with_reducible assumption) | (with_reducible refine Chg.drewN ?_ _) | (with_reducible refine Chg.drew ?_) | (with_reducible refine Chg.alloc ?_ _) | (with_reducible refine Chg.setCell ?_ (by first | (left; simp [DevH.foot]; done) | (right; simp; done) | (right; simp; omega)) _))))⟩
  | flush q =>
    go_wp2_with fail
    refine ((HO _).out (by (repeat (first | (with_reducible exact Chg.refl _ _) | (with_reducible assumption) | (with_reducible refine Chg.drewN ?_ _) | (with_reducible refine Chg.drew ?_) | (with_reducible refine Chg.alloc ?_ _) | (with_reducible refine Chg.setCell ?_ (by first | (left; simp [DevH.foot]; done) | (right; simp; done) | (right; simp; omega)) _))))).mono ?_
    rintro e w1 ⟨⟨v, rfl, hv⟩, hc1⟩
    have HC1 : Hid (Chg No w w1) := Chg.trans (by (repeat (first | (with_reducible exact Chg.refl _ _) | (with_reducible assumption) | (with_reducible refine Chg.drewN ?_ _) | (with_reducible refine Chg.drew ?_) | (with_reducible refine Chg.alloc ?_ _) | (with_reducible refine Chg.setCell ?_ (by first | (left; simp [DevH.foot]; done) | (right; simp; done) | (right; simp; omega)) _)))) hc1
    simp only [EvAt] at hv
    clear hc1 HO
    subst hv
    go_wp2_with fail
    go_ret
    exact ⟨⟨none, 0, 0, rfl, Rd.nil _ _ _, rfl, by decide⟩, HC1.out.trans (by (repeat (first | (with_reducible exact Chg.refl _ _) | (with_reducible assumption) | (with_reducible refine Chg.drewN ?_ _) | (with_reducible refine Chg.drew ?_) | (with_reducible refine Chg.alloc ?_ _) | (with_reducible refine Chg.setCell ?_ (by first | (left; simp [DevH.foot]; done) | (right; simp; done) | (right; simp; omega)) _))))⟩
  | bad t =>
    go_wp2_with fail
    refine ((HO _).out (by (repeat (first | (with_reducible exact Chg.refl _ _) | (with_reducible assumption) | (with_reducible refine Chg.drewN ?_ _) | (with_reducible refine Chg.drew ?_) | (with_reducible refine Chg.alloc ?_ _) | (with_reducible refine Chg.setCell ?_ (by first | (left; simp [DevH.foot]; done) | (right; simp; done) | (right; simp; omega)) _))))).mono ?_
    rintro e w1 ⟨⟨v, rfl, hv⟩, hc1⟩
    have HC1 : Hid (Chg No w w1) := Chg.trans (by (repeat (first | (with_reducible exact Chg.refl _ _) | (with_reducible assumption) | (with_reducible refine Chg.drewN ?_ _) | (with_reducible refine Chg.drew ?_) | (with_reducible refine Chg.alloc ?_ _) | (with_reducible refine Chg.setCell ?_ (by first | (left; simp [DevH.foot]; done) | (right; simp; done) | (right; simp; omega)) _)))) hc1
    simp only [EvAt] at hv
    clear hc1 HO
    subst hv
    go_wp2_with fail
    go_ret
    exact ⟨⟨none, 0, 0, rfl, Rd.nil _ _ _, rfl, by decide⟩, HC1.out.trans (by (repeat (first | (with_reducible exact Chg.refl _ _) | (with_reducible assumption) | (with_reducible refine Chg.drewN ?_ _) | (with_reducible refine Chg.drew ?_) | (with_reducible refine Chg.alloc ?_ _) | (with_reducible refine Chg.setCell ?_ (by first | (left; simp [DevH.foot]; done) | (right; simp; done) | (right; simp; omega)) _))))⟩
  | word t =>
    go_wp2_with fail
    refine ((HO _).out (by (repeat (first | (with_reducible exact Chg.refl _ _) | (with_reducible assumption) | (with_reducible refine Chg.drewN ?_ _) | (with_reducible refine Chg.drew ?_) | (with_reducible refine Chg.alloc ?_ _) | (with_reducible refine Chg.setCell ?_ (by first | (left; simp [DevH.foot]; done) | (right; simp; done) | (right; simp; omega)) _))))).mono ?_
    rintro e w1 ⟨⟨v, rfl, hv⟩, hc1⟩
    have HC1 : Hid (Chg No w w1) := Chg.trans (by (repeat (first | (with_reducible exact Chg.refl _ _) | (with_reducible assumption) | (with_reducible refine Chg.drewN ?_ _) | (with_reducible refine Chg.drew ?_) | (with_reducible refine Chg.alloc ?_ _) | (with_reducible refine Chg.setCell ?_ (by first | (left; simp [DevH.foot]; done) | (right; simp; done) | (right; simp; omega)) _)))) hc1
    simp only [EvAt] at hv
    clear hc1 HO
    subst hv
    go_wp2_with fail
    go_ret
    exact ⟨⟨none, 0, 0, rfl, Rd.nil _ _ _, rfl, by decide⟩, HC1.out.trans (by (repeat (first | (with_reducible exact Chg.refl _ _) | (with_reducible assumption) | (with_reducible refine Chg.drewN ?_ _) | (with_reducible refine Chg.drew ?_) | (with_reducible refine Chg.alloc ?_ _) | (with_reducible refine Chg.setCell ?_ (by first | (left; simp [DevH.foot]; done) | (right; simp; done) | (right; simp; omega)) _))))⟩
  | none =>
    go_wp2_with fail
    refine ((HO _).out (by (repeat (first | (with_reducible exact Chg.refl _ _) | (with_reducible assumption) | (with_reducible refine Chg.drewN ?_ _) | (with_reducible refine Chg.drew ?_) | (with_reducible refine Chg.alloc ?_ _) | (with_reducible refine Chg.setCell ?_ (by first | (left; simp [DevH.foot]; done) | (right; simp; done) | (right; simp; omega)) _))))).mono ?_
    rintro e w1 ⟨⟨v, rfl, hv⟩, hc1⟩
    have HC1 : Hid (Chg No w w1) := Chg.trans (by (repeat (first | (with_reducible exact Chg.refl _ _) | (with_reducible assumption) | (with_reducible refine Chg.drewN ?_ _) | (with_reducible refine Chg.drew ?_) | (with_reducible refine Chg.alloc ?_ _) | (with_reducible refine Chg.setCell ?_ (by first | (left; simp [DevH.foot]; done) | (right; simp; done) | (right; simp; omega)) _)))) hc1
    simp only [EvAt] at hv
    clear hc1 HO
    subst hv
    go_wp2_with fail
    go_ret
    exact ⟨⟨none, 0, 0, rfl, Rd.nil _ _ _, rfl, by decide⟩, HC1.out.trans (by (repeat (first | (with_reducible exact Chg.refl _ _) | (with_reducible assumption) | (with_reducible refine Chg.drewN ?_ _) | (with_reducible refine Chg.drew ?_) | (with_reducible refine Chg.alloc ?_ _) | (with_reducible refine Chg.setCell ?_ (by first | (left; simp [DevH.foot]; done) | (right; simp; done) | (right; simp; omega)) _))))⟩
end Go.Proofs.YtedkoplgfidjlaaDoor
