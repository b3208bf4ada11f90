/- Packed texts: TombD, SupA. -/
import Derived.Test.YtplpbbdakihnfaaGreatPk11
import Derived.Test.YtplpbbdakihnfaaGreatPk09
import Derived.StillTailTactics
import Derived.Test.YtplpbbdakihnfaaGreatPk03
import Derived.Test.YtplpbbdakihnfaaGreatPk02
import Derived.Deep.RegionHeld3
import Derived.Shelf.RegionOpen

/- tomb.Add, walked. -/
section
namespace Go.Proofs.YtplpbbdakihnfaaGreat
open Go.RowKit
open Go.ChangeMaps (setBlock)
attribute [local go_sem ↓] Go.wp_at_zero Go.wp_at_succ
set_option linter.unusedSimpArgs false
set_option linter.unusedVariables false

namespace Jn
def at_ (J : Jn) : Int := ((J.first + J.used : Nat) : Int)
def wD (J : Jn) (D : Dev) (l : List Mk) : Dev := D.write J.at_ (jnPage J.gen l)
/-- marks are added: what the journal is then, the device, the error -/
def addJ (J : Jn) (D : Dev) (l : List Mk) : Jn := if J.losses ≠ D.losses ∨ J.room = 0 ∨ D.changeE ≠ 0 then J else if (J.wD D l).changeE ≠ 0 then { J with used := J.used + 1 } else { J with used := J.used + 1, marks := note J.marks l }
def addD (J : Jn) (D : Dev) (l : List Mk) : Dev := if J.losses ≠ D.losses ∨ J.room = 0 then D else if D.changeE ≠ 0 then J.wD D l else (J.wD D l).flush
def addE (J : Jn) (D : Dev) (l : List Mk) : Int := if J.losses ≠ D.losses then 4 else if J.room = 0 then 7 else if D.changeE ≠ 0 then D.changeE else (J.wD D l).changeE
end Jn
def jnHead (gen n : Nat) : List UInt8 := [84, 79, 77, 66] ++ (le 4 n ++ le 8 gen)
theorem jnPage_eq (gen : Nat) (l : List Mk) : jnPage gen l = jnHead gen l.length ++ mksBytes l := by simp [jnPage, jnHead]
theorem changeE_in2 (D : Dev) : D.changeE = 0 ∨ D.changeE = 4 := by unfold Dev.changeE; split <;> simp

section
variable {w w' : World} {h : DevH} {D : Dev} {t : JnH} {J : Jn}
theorem JnAt.lt (hj : JnAt w h t J) {k : Nat} (hk : t.own k) : k < w.heap.size := by
  rcases hk with rfl | rfl
  · exact hj.box.lt
  · exact hj.map.lt
theorem JnAt.bump (hj : JnAt w h t J) (hlt : J.used < J.pages) : JnAt (w.setCell ⟨t.J, 5, none⟩ (.int .i64 ((J.used : Int) + 1))) h t { J with used := J.used + 1 } ∧ Chg (fun k => k = t.J) w (w.setCell ⟨t.J, 5, none⟩ (.int .i64 ((J.used : Int) + 1))) := by
  have hc : Chg (fun k => k = t.J) w (w.setCell ⟨t.J, 5, none⟩ (.int .i64 ((J.used : Int) + 1))) := chg_setCell w ⟨t.J, 5, none⟩ _
  refine ⟨⟨?_, hj.map.chg hc (hj.map.ne_blk hj.box), hj.fit, hlt, hj.gen, hj.far⟩, hc⟩
  have := hj.box.set_ 5 (.int .i64 ((J.used : Int) + 1))
  simpa using this
theorem Rd.ofTy {S : Nat → Prop} {te T : TypeId} {A : Option Addr} {n : Nat} {xs : List Value} {g : Nat} {cs : Array Value} (hr : Rd w te A n xs) (hb : Blk w g T cs) (hne : te ≠ T) (hc : Chg S w w') (hS : ∀ k, S k → k = g) : Rd w' te A n xs :=
  hr.chg hc (fun g' cur fz hg hs => by
    have e := hS _ hs
    subst e
    unfold Blk at hb
    rw [hg] at hb
    injection hb with hb
    injection hb with _ e2
    exact hne e2)
theorem dev_one {N : Nat} {g : Nat} {T : TypeId} {cs : Array Value} (hd : DevN N w h D) (hb : Blk w g T cs) (hc : Chg (fun k => k = g) w w') (h1 : T ≠ tDev) (h2 : T ≠ tPP) (h3 : T ≠ tPage) (h4 : T ≠ tU8) : DevN N w' h D :=
  dev_ty hd hc (fun k hk e => by subst e; exact ⟨_, T, (0, 0), hb, h1, h2, h3, h4⟩)
set_option maxRecDepth 100000 in
set_option maxHeartbeats 4000000 in
theorem jadd_calls (hd : DevAt w h D) (hj : JnAt w h t J) (hfit : J.first + J.pages ≤ D.n) (A : Option Addr) (n c : Nat) (l : List Mk) (te : TypeId) (hn : l.length = n) (hr : Rd w te A (n * 2) (mks l)) (h1 : 1 ≤ n) (h23 : n ≤ 23) (hl : ∀ m ∈ l, m.1 < 18446744073709551616 ∧ m.2 < 18446744073709551616) (hte : te = tMark) :
    Calls Tryz.prog 54 #[.pointer (some ⟨t.J, 0, none⟩), .slice A n c] w fun e w' => e = .returned (.int .i64 (J.addE D l)) ∧ JnAt w' h t (J.addJ D l) ∧ DevAt w' h (J.addD D l) ∧ Chg (fun k => h.foot k ∨ t.own k) w w' := by
  subst hte
  have HLO := fun W => Lib.hid (fun hc : Chg No w W => losses_calls (hd.chgNo hc))
  have HRM := fun W => Lib.hid (fun hc : Chg No w W => room_calls (hj.chgNo hc))
  have c0 := hj.box.cell 0
  have c1 := hj.box.cell 1
  have c2 := hj.box.cell 2
  have c4 := hj.box.cell 4
  have c5 := hj.box.cell 5
  simp at c0 c1 c2 c4 c5
  have n0 : ((n : Int) == 0) = false := by simp; omega
  have n23 : ¬ (23 : Int) < (n : Int) := by omega
  have hul := hj.used
  have hft := hj.fit
  have hgn := hj.gen
  have HD := Lib.hid hd
  have HJ := Lib.hid hj
  have HR := Lib.hid hr
  have HNL := Lib.hid hn
  have HLM := Lib.hid hl
  have HFIT := Lib.hid hfit
  clear hd hj hr hn hl hfit
  by_cases hlo : J.losses = D.losses
  rotate_left
  · have hne : (J.losses != D.losses) = true := by simpa using hlo
    have hE : J.addE D l = 4 := by unfold Jn.addE; rw [if_pos hlo]
    have hJ : J.addJ D l = J := by unfold Jn.addJ; rw [if_pos (.inl hlo)]
    have hD : J.addD D l = D := by unfold Jn.addD; rw [if_pos (.inl hlo)]
    rw [hE, hJ, hD]
    clear hE hJ hD
    go_enter Tryz.func54, Tryz.ntmps54
    go_wp2_with fail
    go_quiet ((first | (go_at_call 35; exact quiet_left ((HLO _).out (by (repeat (first | (with_reducible exact Chg.refl _ _) | (with_reducible assumption) | (with_reducible refine Chg.drewN ?_ _) | (with_reducible refine Chg.drew ?_) | (with_reducible refine Chg.alloc ?_ _) | (with_reducible refine Chg.setCell ?_ (by first | (left; simp [DevH.foot]; done) | (right; simp; done) | (right; simp; omega)) _))))))))
    go_wp2
    go_ret
    have hc9 : Chg No w (w.drewN nq) := by (repeat (first | (with_reducible exact Chg.refl _ _) | (with_reducible assumption) | (with_reducible refine Chg.drewN ?_ _) | (with_reducible refine Chg.drew ?_) | (with_reducible refine Chg.alloc ?_ _) | (with_reducible refine Chg.setCell ?_ (by first | (left; simp [DevH.foot]; done) | (right; simp; done) | (right; simp; omega)) _)))
    exact ⟨rfl, HJ.out.chgNo hc9, (show DevN w.heap.size w h D from HD.out).chgNo hc9 |>.at_, hc9.mono (fun _ _ h => h.elim)⟩
  have hne : (J.losses != D.losses) = false := by simp [hlo]
  by_cases hrm : J.room = 0
  · have hE : J.addE D l = 7 := by unfold Jn.addE; rw [if_neg (fun h => h hlo), if_pos hrm]
    have hJ : J.addJ D l = J := by unfold Jn.addJ; rw [if_pos (.inr (.inl hrm))]
    have hD : J.addD D l = D := by unfold Jn.addD; rw [if_pos (.inr hrm)]
    rw [hE, hJ, hD]
    have HLO2 := Lib.hid hlo
    rw [hrm] at HRM
    clear hE hJ hD hlo
    go_enter Tryz.func54, Tryz.ntmps54
    go_wp2_with fail
    go_quiet ((first | (go_at_call 35; exact quiet_left ((HLO _).out (by (repeat (first | (with_reducible exact Chg.refl _ _) | (with_reducible assumption) | (with_reducible refine Chg.drewN ?_ _) | (with_reducible refine Chg.drew ?_) | (with_reducible refine Chg.alloc ?_ _) | (with_reducible refine Chg.setCell ?_ (by first | (left; simp [DevH.foot]; done) | (right; simp; done) | (right; simp; omega)) _))))))))
    go_wp2_with fail
    refine ((HRM _).out (by (repeat (first | (with_reducible exact Chg.refl _ _) | (with_reducible assumption) | (with_reducible refine Chg.drewN ?_ _) | (with_reducible refine Chg.drew ?_) | (with_reducible refine Chg.alloc ?_ _) | (with_reducible refine Chg.setCell ?_ (by first | (left; simp [DevH.foot]; done) | (right; simp; done) | (right; simp; omega)) _))))).mono ?_
    rintro e w1 ⟨rfl, hc1⟩
    have hc9 : Chg No w w1 := (by (repeat (first | (with_reducible exact Chg.refl _ _) | (with_reducible assumption) | (with_reducible refine Chg.drewN ?_ _) | (with_reducible refine Chg.drew ?_) | (with_reducible refine Chg.alloc ?_ _) | (with_reducible refine Chg.setCell ?_ (by first | (left; simp [DevH.foot]; done) | (right; simp; done) | (right; simp; omega)) _))) : Chg No w _).trans hc1
    go_wp2
    go_ret
    exact ⟨rfl, HJ.out.chgNo hc9, (show DevN w.heap.size w h D from HD.out).chgNo hc9 |>.at_, hc9.mono (fun _ _ h => h.elim)⟩
  have hrm0 : ((J.room : Int) == 0) = false := by simp; omega
  have HLO2 := Lib.hid hlo
  have HRM2 := Lib.hid hrm
  have hroom : J.used < J.pages := by unfold Jn.room at hrm; omega
  clear hlo hrm
  go_enter Tryz.func54, Tryz.ntmps54
  go_wp2_with fail
  go_quiet ((first | (go_at_call 35; exact quiet_left ((HLO _).out (by (repeat (first | (with_reducible exact Chg.refl _ _) | (with_reducible assumption) | (with_reducible refine Chg.drewN ?_ _) | (with_reducible refine Chg.drew ?_) | (with_reducible refine Chg.alloc ?_ _) | (with_reducible refine Chg.setCell ?_ (by first | (left; simp [DevH.foot]; done) | (right; simp; done) | (right; simp; omega)) _))))))))
  go_wp2_with fail
  refine ((HRM _).out (by (repeat (first | (with_reducible exact Chg.refl _ _) | (with_reducible assumption) | (with_reducible refine Chg.drewN ?_ _) | (with_reducible refine Chg.drew ?_) | (with_reducible refine Chg.alloc ?_ _) | (with_reducible refine Chg.setCell ?_ (by first | (left; simp [DevH.foot]; done) | (right; simp; done) | (right; simp; omega)) _))))).mono ?_
  rintro e w1 ⟨rfl, hc1⟩
  have HC1 : Hid (Chg No w w1) := (by (repeat (first | (with_reducible exact Chg.refl _ _) | (with_reducible assumption) | (with_reducible refine Chg.drewN ?_ _) | (with_reducible refine Chg.drew ?_) | (with_reducible refine Chg.alloc ?_ _) | (with_reducible refine Chg.setCell ?_ (by first | (left; simp [DevH.foot]; done) | (right; simp; done) | (right; simp; omega)) _))) : Chg No w _).trans hc1
  clear hc1 HLO HRM
  go_wp2_with fail
  refine (tmagic_calls _).mono ?_
  rintro e w2 ⟨rfl, hw2⟩
  have ho2 : w2.ownsRow w1.heap.size tU8 1 (.slice (some ⟨w1.heap.size, 0, none⟩) 4 4) 4 (bys [84, 79, 77, 66]) := by
    rw [hw2]; exact own_cells w1 tU8 #[.int .u8 84, .int .u8 79, .int .u8 77, .int .u8 66] 4 rfl (by simp only [maxLen]; omega)
  have hc2 : Chg No w1 w2 := by rw [hw2]; (repeat (first | (with_reducible exact Chg.refl _ _) | (with_reducible assumption) | (with_reducible refine Chg.drewN ?_ _) | (with_reducible refine Chg.drew ?_) | (with_reducible refine Chg.alloc ?_ _) | (with_reducible refine Chg.setCell ?_ (by first | (left; simp [DevH.foot]; done) | (right; simp; done) | (right; simp; omega)) _)))
  have HA4 := Lib.hid (tadd_callsI (.slice (some ⟨w1.heap.size, 0, none⟩) 4 4) w1.heap.size 4 (bys [84, 79, 77, 66]) (n : Int) 4 w2 ho2 hc2.size (by omega) (by omega) (by omega) (by omega) (by omega))
  have HC2 := Lib.hid hc2
  have hew : IntKind.u64.wrap (n : Int) = n := wraps_u64 _ (by omega) (by omega)
  clear hw2 ho2 hc2
  go_wp2_with fail
  refine HA4.out.mono ?_
  rintro e w3 ⟨v3, rfl, ho3, hc3⟩
  have HC3 : Hid (Chg (fun i => w1.heap.size ≤ i) w1 w3) := (HC2.out.mono (fun _ _ h => h.elim)).trans hc3
  have HJ3 : Hid (JnAt w3 h t J) := (HJ.out.chgNo HC1.out).chg HC3.out (fun k hk hS => by have := HJ.out.lt hk; have := HC1.out.size; omega)
  have d4 := HJ3.out.box.cell 4
  simp at d4
  have HA8 := Lib.hid (tadd_callsI v3 w1.heap.size _ _ (J.gen : Int) 8 w3 ho3 HC3.out.size (by omega) (by omega) (by omega) (by omega) (by omega))
  clear hc3 ho3 HA4 c0 c1 c2 c4 c5
  go_wp2_with fail
  refine HA8.out.mono ?_
  rintro e w4 ⟨v4, rfl, ho4, hc4⟩
  have HO4 : Hid (w4.ownsRow w1.heap.size tU8 1 v4 16 (bys (jnHead J.gen n))) := by
    show World.ownsRow _ _ _ _ _ _ _
    have e : bys (jnHead J.gen n) = bys [84, 79, 77, 66] ++ bys (le 4 n) ++ bys (le 8 J.gen) := by unfold jnHead; rw [bys_append, bys_append, List.append_assoc]
    rw [e]
    exact ho4
  have HC4 : Hid (Chg (fun i => w1.heap.size ≤ i) w1 w4) := HC3.out.trans hc4
  clear ho4 hc4 HA8 d4
  go_wp2
  go_loopg [5, 46] n (fun gk vv vi wr => ∃ (k : Nat) (v5 : Value), v5 = vv ∧ gk = n - k ∧ k ≤ n ∧ vi = .int .i64 k ∧ Hid (wr.ownsRow w1.heap.size tU8 1 v5 (16 + 16 * k) (bys (jnHead J.gen n ++ mksBytes (l.take k))) ∧ Chg (fun i => w1.heap.size ≤ i) w1 wr))
  case atStart => exact ⟨0, _, rfl, rfl, Nat.zero_le _, rfl, by simpa [mksBytes] using HO4.out, HC4.out⟩
  case round =>
    obtain ⟨k, v5, rfl, rfl, hk, rfl, H⟩ := hrel
    by_cases hlt : k < n
    · obtain ⟨m, hm⟩ : ∃ m, l[k]? = some m := ⟨_, List.getElem?_eq_getElem (by rw [HNL.out]; exact hlt)⟩
      obtain ⟨g, off, eA, hg, hx⟩ := ((HR.out.chg HC1.out (fun _ _ _ _ h => h)).chg H.out.2 (fun g cur fz hg hS => by have h1 := (Array.getElem?_eq_some_iff.1 hg).1; have hS' : w1.heap.size ≤ g := hS; omega)).at_ (j := k * 2) (by omega)
      subst eA
      have c0 := hx (k * 2) _ (mks_get l k m hm).1
      have c1 := hx (k * 2 + 1) _ (mks_get l k m hm).2
      rw [← Nat.add_assoc] at c1
      have hkk : (k : Int) < (n : Int) := by omega
      have hml := HLM.out m (List.mem_of_getElem? hm)
      have HMB : Hid (bys (jnHead J.gen n ++ mksBytes (l.take (k + 1))) = (bys (jnHead J.gen n ++ mksBytes (l.take k)) ++ bys (le 8 m.1)) ++ bys (le 8 m.2)) := by
        show _ = _
        rw [List.take_add_one, hm, Option.toList]
        simp [mksBytes, mkBytes, bys_append]
      obtain ⟨kx, vx⟩ := m
      simp only at hml HMB
      have hkx : (kx : Int) < 18446744073709551616 := by omega
      have hvx : (vx : Int) < 18446744073709551616 := by omega
      have HLT := Lib.hid hlt
      clear hx hm hlt hml
      go_wp2_with fail
      refine wp_forget (fun W => Chg No wr W ∧ Blk W wr.heap.size tMark #[.int .u64 kx, .int .u64 vx]) ⟨by (repeat (first | (with_reducible exact Chg.refl _ _) | (with_reducible assumption) | (with_reducible refine Chg.drewN ?_ _) | (with_reducible refine Chg.drew ?_) | (with_reducible refine Chg.alloc ?_ _) | (with_reducible refine Chg.setCell ?_ (by first | (left; simp [DevH.foot]; done) | (right; simp; done) | (right; simp; omega)) _))), Blk.new _ _ _⟩ (fun W hW => ?_)
      obtain ⟨hcW, hbW⟩ := hW
      have hga1 : w1.heap.size ≤ wr.heap.size := H.out.2.size
      obtain ⟨ga, hga⟩ : ∃ ga, wr.heap.size = ga := ⟨_, rfl⟩
      have HOW : Hid (W.drew.ownsRow w1.heap.size tU8 1 v5 (16 + 16 * k) (bys (jnHead J.gen n ++ mksBytes (l.take k)))) := own_chg H.out.1 hcW.drew (fun _ _ h => h)
      have HOB : Hid (∀ j, v5.ownBlock = some j → j < wr.heap.size) := fun j hj => (H.out.1.lt j hj).2
      have HCWW : Hid (Chg (fun i => w1.heap.size ≤ i) w1 W.drew) := H.out.2.trans ((hcW.drew).mono (fun _ _ h => h.elim))
      have hszw : w1.heap.size ≤ W.drew.heap.size := HCWW.out.size
      have HBD : Hid (Blk W.drew ga tMark #[.int .u64 kx, .int .u64 vx]) := by show Blk _ _ _ _; rw [← hga]; exact hbW.drew
      rw [hga] at hbW HOB ⊢
      have a0 := hbW.cell 0
      have a1 := hbW.cell 1
      simp at a0 a1
      obtain ⟨base, hbase⟩ : ∃ base, base = w1.heap.size := ⟨_, rfl⟩
      rw [← hbase] at HOW hszw HCWW
      have HBASE := Lib.hid hbase
      obtain ⟨xs, hxs⟩ : ∃ xs, xs = bys (jnHead J.gen n ++ mksBytes (l.take k)) := ⟨_, rfl⟩
      rw [← hxs] at HOW HMB
      clear hcW H c0 c1 hbase hxs hga hga1
      go_region_held3 (fun w' => w'.cell? ⟨ga, 0, none⟩ = some (.int .u64 kx) ∧ w'.cell? ⟨ga, 1, none⟩ = some (.int .u64 vx)) (first | go_keep)
        (first
          | (go_at_call_of 82 v5
             refine (tadd_calls v5 base (16 + 16 * k) xs kx 8 W.drew HOW.out hszw (by omega) (by omega) (by omega)).mono ?_
             rintro e w6 ⟨v6, rfl, ho6, hc6, hb6⟩
             have HOB6 : Hid (∀ j, v6.ownBlock = some j → j ≠ ga) := fun j hj => by
               have hlt := HBD.out.lt
               rcases hb6 with h | h
               · have := HOB.out j (by rw [← h]; exact hj); omega
               · have := h j hj; omega
             have HO6 := Lib.hid ho6
             have HC6 : Hid (Chg (fun i => base ≤ i) W.drew w6) := hc6.mono (fun i _ hi => own_new HOW.out i hi)
             have X6 := Lib.hid (HBD.out.chg hc6 (fun hS => by have := HOB.out ga hS; omega))
             clear ho6 hc6 hb6
             have x60 := X6.out.cell 0
             have x61 := X6.out.cell 1
             simp at x60 x61
             have hsz6 : base ≤ w6.heap.size := by have := HC6.out.size; omega)
          | (go_at_call_of 82 v6
             refine (tadd_calls v6 base (16 + 16 * k + 8) (xs ++ bys (le 8 kx)) vx 8 w6 HO6.out hsz6 (by omega) (by omega) (by omega)).mono ?_
             rintro e w7 ⟨v7, rfl, ho7, hc7, _⟩
             have HO7 := Lib.hid ho7
             have HC7 : Hid (Chg (fun i => base ≤ i) w6 w7) := hc7.mono (fun i _ hi => own_new HO6.out i hi)
             have X7 := Lib.hid (X6.out.chg hc7 (fun hS => (HOB6.out ga hS) rfl))
             have x70 := X7.out.cell 0
             have x71 := X7.out.cell 1
             simp at x70 x71
             clear ho7 hc7))
      all_goals
        go_wp2
        go_roundg (n - (k + 1))
        case measure => have := HLT.out; omega
        case rel =>
          refine ⟨k + 1, _, rfl, rfl, by have := HLT.out; omega, by go_num, ?_, ?_⟩
          · rw [HMB.out, ← HBASE.out]
            have := HO7.out
            rwa [show 16 + 16 * k + 8 + 8 = 16 + 16 * (k + 1) by omega] at this
          · rw [← HBASE.out]
            exact HCWW.out.trans (HC6.out.trans HC7.out)
    · obtain rfl : k = n := by omega
      have el : l.take k = l := List.take_of_length_le (by rw [HNL.out]; exact Nat.le_refl _)
      have hpg : wr.ownsRow w1.heap.size tU8 1 v5 (16 + 16 * k) (bys (jnPage J.gen l)) := by
        have := H.out.1
        rw [el] at this
        rw [jnPage_eq, HNL.out]
        exact this
      obtain ⟨A5, c5, rfl, hc5, hr5⟩ := own_slice hpg
      rw [Nat.mul_one] at hr5
      have HCW : Hid (Chg No w wr) := HC1.out.then H.out.2 (fun i hi hS => by have := HC1.out.size; have hS' : w1.heap.size ≤ i := hS; omega)
      have HJ5 := Lib.hid (HJ.out.chgNo HCW.out.drew)
      have HD5 : Hid (DevAt wr.drew h D) := ((show DevN w.heap.size w h D from HD.out).chgNo HCW.out.drew).at_
      have HR5 : Hid (Rd wr.drew tU8 A5 (16 + 16 * k) (bys (jnPage J.gen l))) := hr5.drew
      have HM5 := Lib.hid (HR.out.chg HCW.out.drew (fun _ _ _ _ h => h))
      have HC5 : Hid (Chg No w wr.drew) := HCW.out.drew
      have hjr := HJ.out.chgNo HCW.out
      have d0 := hjr.box.cell 0
      have d2 := hjr.box.cell 2
      have d5 := hjr.box.cell 5
      simp at d0 d2 d5
      have hea : IntKind.i64.wrap ((J.first : Int) + (J.used : Int)) = (J.first : Int) + (J.used : Int) := IntWalk.i64_in _ (by omega)
      clear H hpg hr5 el hjr HO4
      go_wp2_with fail
      go_still_tail 14, (by kernel_rfl)
      change wpList _ _ _ _ _ wr.drew
      generalize wr.drew = wy at HJ5 HD5 HR5 HM5 HC5 ⊢
      have HWR := Lib.hid (write_calls (show DevN wy.heap.size wy h D from HD5.out) ((J.first : Int) + (J.used : Int)) A5 (16 + 16 * k) c5 (jnPage J.gen l) HR5.out (by omega))
      have hwe : D.writeE ((J.first : Int) + (J.used : Int)) (jnPage J.gen l).length = D.changeE := by
        have hfit := HFIT.out
        have hnl := HNL.out
        unfold Dev.writeE
        rw [show D.has ((J.first : Int) + (J.used : Int)) = true from by simp [Dev.has]; omega, decide_eq_true (by rw [jnPage_len]; omega)]
        rfl
      have hat : ((J.first : Int) + (J.used : Int)) = J.at_ := by unfold Jn.at_; omega
      rw [hwe] at HWR
      have HWD : Hid (D.write ((J.first : Int) + (J.used : Int)) (jnPage J.gen l) = J.wD D l) := by show _ = _; rw [hat]; rfl
      rw [HWD.out] at HWR
      obtain ⟨D1, hD1⟩ : ∃ D1, D1 = J.wD D l := ⟨_, rfl⟩
      rw [← hD1] at HWR
      have HD1E := Lib.hid hD1
      have hce := changeE_in2 D
      obtain ⟨ce, hcee⟩ : ∃ ce, ce = D.changeE := ⟨_, rfl⟩
      have HCE := Lib.hid hcee
      rw [← hcee] at HWR hce
      clear hcee hwe hat hD1 d0 d2 d5
      go_wp2_with fail
      refine HWR.out.mono ?_
      rintro e w6 ⟨rfl, hd6, hc6⟩
      have HJ6 := Lib.hid (HJ5.out.foot (show DevN wy.heap.size wy h D from HD5.out) hc6)
      have HM6 := Lib.hid (HM5.out.chg hc6 (fun g cur fz hg => (show DevN wy.heap.size wy h D from HD5.out).not_foot hg (by decide) (by decide)))
      have HC6 : Hid (Chg (fun k => h.foot k ∨ t.own k) w w6) := (HC5.out.mono (fun _ _ h => h.elim)).trans (hc6.mono (fun _ _ h => .inl h))
      have HD6 := Lib.hid hd6
      clear hd6 hc6 HWR
      rcases hce with rfl | rfl
      rotate_left
      · have hE : J.addE D l = 4 := by unfold Jn.addE; rw [if_neg (fun h => h HLO2.out), if_neg HRM2.out, ← HCE.out, if_pos (by decide)]
        have hJ : J.addJ D l = J := by unfold Jn.addJ; rw [if_pos (.inr (.inr (by rw [← HCE.out]; decide)))]
        have hD : J.addD D l = D1 := by unfold Jn.addD; rw [if_neg (fun h => h.elim (fun h => h HLO2.out) HRM2.out), if_pos (by rw [← HCE.out]; decide)]; exact HD1E.out.symm
        have HE := Lib.hid hE
        have HJJ := Lib.hid hJ
        have HDD := Lib.hid hD
        clear hE hJ hD
        go_wp2
        go_ret
        exact ⟨by rw [HE.out]; rfl, by rw [HJJ.out]; exact HJ6.out, by rw [HDD.out]; exact HD6.out, HC6.out⟩
      have d5 := HJ6.out.box.cell 5
      have f5 := HJ6.out.box.frozen 5
      have d0 := HJ6.out.box.cell 0
      simp at d5 d0
      have hu1 : IntKind.i64.wrap ((J.used : Int) + 1) = (J.used : Int) + 1 := IntWalk.i64_in _ (by omega)
      have hb := HJ6.out.bump hroom
      obtain ⟨w7, hw7⟩ : ∃ w7, w7 = w6.setCell ⟨t.J, 5, none⟩ (.int .i64 ((J.used : Int) + 1)) := ⟨_, rfl⟩
      rw [← hw7] at hb
      have HJ7 := Lib.hid hb.1
      have HD7 : Hid (DevAt w7 h D1) := (dev_one (show DevN w6.heap.size w6 h D1 from HD6.out) HJ6.out.box hb.2 (by decide) (by decide) (by decide) (by decide)).at_
      have HM7 := Lib.hid (HM6.out.ofTy HJ6.out.box (by decide) hb.2 (fun _ h => h))
      have HC7 : Hid (Chg (fun k => h.foot k ∨ t.own k) w w7) := HC6.out.then hb.2 (fun i hi e => .inr (.inl e))
      have hd7 := HJ7.out.box.cell 0
      simp at hd7
      have HFL := Lib.hid (flush_calls (show DevN w7.heap.size w7 h D1 from HD7.out))
      have HW7 := Lib.hid hw7
      have hce1 := changeE_in2 D1
      obtain ⟨c1, hc1e⟩ : ∃ c1, c1 = D1.changeE := ⟨_, rfl⟩
      have HC1E := Lib.hid hc1e
      rw [← hc1e] at HFL hce1
      clear hc1e hb hw7
      go_wp2_with fail
      rw [← HW7.out]
      refine HFL.out.mono ?_
      rintro e w8 ⟨rfl, hd8, hc8⟩
      have HJ8 := Lib.hid (HJ7.out.foot (show DevN w7.heap.size w7 h D1 from HD7.out) hc8)
      have HM8 := Lib.hid (HM7.out.chg hc8 (fun g cur fz hg => (show DevN w7.heap.size w7 h D1 from HD7.out).not_foot hg (by decide) (by decide)))
      have HC8 : Hid (Chg (fun k => h.foot k ∨ t.own k) w w8) := HC7.out.trans (hc8.mono (fun _ _ h => .inl h))
      have HD8 := Lib.hid hd8
      have hD : J.addD D l = D1.flush := by unfold Jn.addD; rw [if_neg (fun h => h.elim (fun h => h HLO2.out) HRM2.out), if_neg (by rw [← HCE.out]; decide), HD1E.out]
      have HDD := Lib.hid hD
      clear hd8 hc8 HFL hD
      rcases hce1 with rfl | rfl
      rotate_left
      · have hE : J.addE D l = 4 := by unfold Jn.addE; rw [if_neg (fun h => h HLO2.out), if_neg HRM2.out, if_neg (by rw [← HCE.out]; decide), ← HD1E.out]; exact HC1E.out.symm
        have hJ : J.addJ D l = { J with used := J.used + 1 } := by unfold Jn.addJ; rw [if_neg (fun h => h.elim (fun h => h HLO2.out) (fun h => h.elim HRM2.out (fun h => h HCE.out.symm))), if_pos (by rw [← HD1E.out, ← HC1E.out]; decide)]
        have HE := Lib.hid hE
        have HJJ := Lib.hid hJ
        clear hE hJ
        go_wp2
        go_ret
        exact ⟨by rw [HE.out]; rfl, by rw [HJJ.out]; exact HJ8.out, by rw [HDD.out]; exact HD8.out, HC8.out⟩
      have hE : J.addE D l = 0 := by unfold Jn.addE; rw [if_neg (fun h => h HLO2.out), if_neg HRM2.out, if_neg (by rw [← HCE.out]; decide), ← HD1E.out]; exact HC1E.out.symm
      have hJ : J.addJ D l = { J with used := J.used + 1, marks := note J.marks l } := by unfold Jn.addJ; rw [if_neg (fun h => h.elim (fun h => h HLO2.out) (fun h => h.elim HRM2.out (fun h => h HCE.out.symm))), if_neg (by rw [← HD1E.out, ← HC1E.out]; decide)]
      have HE := Lib.hid hE
      have HJJ := Lib.hid hJ
      have HNT := Lib.hid (note_calls HJ8.out A k c l tMark HNL.out HM8.out (by omega))
      clear hE hJ
      go_wp2_with fail
      refine HNT.out.mono ?_
      rintro e w9 ⟨rfl, hj9, hc9⟩
      have HJ9 := Lib.hid hj9
      have HD9 : Hid (DevAt w9 h D1.flush) := ((show DevN w8.heap.size w8 h _ from HD8.out).chg hc9 (fun e => by obtain ⟨a, b, c, e', hb⟩ := HD8.out.box; exact HJ8.out.map.ne_blk hb e.symm) (fun e => by obtain ⟨ps, hb, _⟩ := HD8.out.row; exact HJ8.out.map.ne_blk hb e.symm) (fun e => HJ8.out.far e.symm) (fun g cs T _ hT hb e => by subst e; exact HJ8.out.map.ne_blk hb rfl)).at_
      have HC9 : Hid (Chg (fun k => h.foot k ∨ t.own k) w w9) := HC8.out.then hc9 (fun i hi e => .inr (.inr e))
      clear hj9 hc9 HNT
      go_wp2
      go_ret
      exact ⟨by rw [HE.out]; rfl, by rw [HJJ.out]; exact HJ9.out, by rw [HDD.out]; exact HD9.out, HC9.out⟩
end
end Go.Proofs.YtplpbbdakihnfaaGreat
end

/- super.lay and super.Encode, walked. -/
section
namespace Go.Proofs.YtplpbbdakihnfaaGreat
open Go.RowKit
attribute [local go_sem ↓] Go.wp_at_zero Go.wp_at_succ
set_option linter.unusedSimpArgs false
set_option linter.unusedVariables false

/-! bytes that are laid over others -/
def lput (L : List UInt8) (off : Nat) (xs : List UInt8) : List UInt8 := L.take off ++ (xs ++ L.drop (off + xs.length))
theorem lput_nil (L : List UInt8) (off : Nat) : lput L off [] = L := by simp [lput]
theorem lput_len {L : List UInt8} {off : Nat} {xs : List UInt8} (h : off + xs.length ≤ L.length) : (lput L off xs).length = L.length := by
  simp only [lput, List.length_append, List.length_take, List.length_drop]; omega
theorem lput_snoc {L : List UInt8} {off : Nat} {xs : List UInt8} (b : UInt8) (h : off + xs.length < L.length) : lput L off (xs ++ [b]) = (lput L off xs).set (off + xs.length) b := by
  unfold lput
  have e : L.drop (off + xs.length) = L[off + xs.length] :: L.drop (off + xs.length + 1) := List.drop_eq_getElem_cons h
  have e1 : L.take off ++ (xs ++ L[off + xs.length] :: L.drop (off + xs.length + 1)) = (L.take off ++ xs) ++ L[off + xs.length] :: L.drop (off + xs.length + 1) := by simp
  rw [e, e1, List.set_append_right _ _ (by simp only [List.length_append, List.length_take]; omega)]
  have e2 : off + xs.length - (L.take off ++ xs).length = 0 := by simp [List.length_take]; omega
  rw [e2, List.set_cons_zero, List.length_append]
  simp [Nat.add_assoc]
theorem lput_at (a b c xs : List UInt8) (off : Nat) (h1 : a.length = off) (h2 : b.length = xs.length) : lput (a ++ (b ++ c)) off xs = a ++ (xs ++ c) := by
  subst h1
  unfold lput
  rw [List.take_left, ← List.drop_drop, List.drop_left, ← h2, List.drop_left]
theorem bys_set (L : List UInt8) (i : Nat) (b : UInt8) : (bys L).toArray.setIfInBounds i (.int .u8 b.toNat) = (bys (L.set i b)).toArray := by
  unfold bys
  rw [List.map_set]
  simp

set_option maxRecDepth 100000 in
theorem slay_calls (w : World) (g off n c : Nat) (L : List UInt8) (v : Nat) (hb : Blk w g tU8 (bys L).toArray) (hl : off + n ≤ L.length) (hn : n ≤ 8) (hv : v < 18446744073709551616) :
    Calls Tryz.prog 114 #[.slice (some ⟨g, off, none⟩) n c, .int .u64 v] w fun e w' => e = .returned (.tuple #[]) ∧ Blk w' g tU8 (bys (lput L off (le n v))).toArray ∧ Chg (fun k => k = g) w w' := by
  have HB := Lib.hid hb
  clear hb
  go_enter Tryz.func114, Tryz.ntmps114
  go_wp2
  go_loopg [7] n (fun gk vi wr => ∃ k : Nat, gk = n - k ∧ k ≤ n ∧ vi = .int .i64 k ∧ Hid (Blk wr g tU8 (bys (lput L off (le k v))).toArray ∧ Chg (fun k => k = g) w wr))
  case atStart => exact ⟨0, rfl, Nat.zero_le _, rfl, by simpa [le, lput_nil] using HB.out, Chg.refl _ _⟩
  case round =>
    obtain ⟨k, rfl, hk, rfl, H⟩ := hrel
    by_cases hlt : k < n
    · have hkn : (k : Int) < (n : Int) := by omega
      have hlen : (lput L off (le k v)).length = L.length := lput_len (by rw [le_length]; omega)
      have hfz := H.out.1.frozen (off + k)
      have hcell : ∃ u, wr.cell? ⟨g, off + k, none⟩ = some u := by
        rw [H.out.1.cell (off + k)]
        exact ⟨_, Array.getElem?_eq_getElem (by simp [bys_length, hlen]; omega)⟩
      obtain ⟨u, hcell⟩ := hcell
      have e1 : IntKind.i64.wrap (8 * (k : Int)) = 8 * (k : Int) := IntWalk.i64_in _ (by omega)
      go_wp2_with fail
      go_roundg (n - (k + 1))
      case measure => omega
      case rel =>
        refine ⟨k + 1, rfl, by omega, by go_num, ?_, H.out.2.setCell (.inl rfl) _⟩
        have hs := H.out.1.set_ (off + k) (.int .u8 ((v : Int) / 2 ^ (8 * k) % 256))
        rw [← le_byte v k, bys_set] at hs
        rw [← le_byte v k, le_snoc, lput_snoc _ (by rw [le_length]; omega), le_length]
        exact hs
    · obtain rfl : k = n := by omega
      go_wp2
      go_end0
      exact ⟨rfl, H.out.1, H.out.2⟩

abbrev tSb : TypeId := 30
def bl (b : Bool) : Value := .bool b
def sbc (b : Sb) : List Value := [.int .u64 b.seq, .int .u64 b.epoch, .int .u64 b.reserved, .int .u64 b.horizon, .int .u64 b.gen, .bool b.clean, .int .i64 b.image]
def sbV (b : Sb) : Value := .agg (sbc b).toArray

def encV (b : Sb) : List Nat := [b.seq, b.epoch, b.reserved, b.horizon, b.gen]
def encL (b : Sb) : Nat → List UInt8
  | 0 => [83, 85, 80, 69] ++ List.replicate 60 0
  | k + 1 => lput (encL b k) (4 + 8 * k) (le 8 ((encV b).getD k 0))
theorem encL_len (b : Sb) : ∀ k, k ≤ 5 → (encL b k).length = 64 := by
  intro k
  induction k with
  | zero => intro _; rfl
  | succ k ih =>
    intro hk
    rw [encL, lput_len (by rw [ih (by omega), le_length]; omega), ih (by omega)]
def encA (b : Sb) : List UInt8 := if b.clean then (encL b 5).set 44 1 else encL b 5
def encB (b : Sb) : List UInt8 := if 0 ≤ b.image ∧ b.image ≤ 2147483647 then lput (encA b) 48 (le 4 b.image.toNat) else encA b
theorem encL_five (b : Sb) : encL b 5 = [83, 85, 80, 69] ++ (le 8 b.seq ++ (le 8 b.epoch ++ (le 8 b.reserved ++ (le 8 b.horizon ++ (le 8 b.gen ++ List.replicate 20 0))))) := by
  have e2 : ∀ a b c : List UInt8, a ++ (b ++ c) = (a ++ b) ++ c := fun a b c => (List.append_assoc a b c).symm
  have e3 : ∀ a b c : List UInt8, (a ++ b) ++ c = a ++ (b ++ c) := fun a b c => List.append_assoc a b c
  have h1 : encL b 1 = [83, 85, 80, 69] ++ (le 8 b.seq ++ List.replicate 52 0) := lput_at _ (List.replicate 8 0) (List.replicate 52 0) _ 4 rfl (by rw [le_length]; rfl)
  have h2 : encL b 2 = ([83, 85, 80, 69] ++ le 8 b.seq) ++ (le 8 b.epoch ++ List.replicate 44 0) := by
    show lput (encL b 1) 12 _ = _
    rw [h1, e2]
    exact lput_at _ (List.replicate 8 0) (List.replicate 44 0) _ 12 (by simp [le_length]) (by rw [le_length]; rfl)
  have h3 : encL b 3 = (([83, 85, 80, 69] ++ le 8 b.seq) ++ le 8 b.epoch) ++ (le 8 b.reserved ++ List.replicate 36 0) := by
    show lput (encL b 2) 20 _ = _
    rw [h2, e2]
    exact lput_at _ (List.replicate 8 0) (List.replicate 36 0) _ 20 (by simp [le_length]) (by rw [le_length]; rfl)
  have h4 : encL b 4 = ((([83, 85, 80, 69] ++ le 8 b.seq) ++ le 8 b.epoch) ++ le 8 b.reserved) ++ (le 8 b.horizon ++ List.replicate 28 0) := by
    show lput (encL b 3) 28 _ = _
    rw [h3, e2]
    exact lput_at _ (List.replicate 8 0) (List.replicate 28 0) _ 28 (by simp [le_length]) (by rw [le_length]; rfl)
  have h5 : encL b 5 = (((([83, 85, 80, 69] ++ le 8 b.seq) ++ le 8 b.epoch) ++ le 8 b.reserved) ++ le 8 b.horizon) ++ (le 8 b.gen ++ List.replicate 20 0) := by
    show lput (encL b 4) 36 _ = _
    rw [h4, e2]
    exact lput_at _ (List.replicate 8 0) (List.replicate 20 0) _ 36 (by simp [le_length]) (by rw [le_length]; rfl)
  rw [h5]
  simp only [List.append_assoc]
def encH (b : Sb) : List UInt8 := [83, 85, 80, 69] ++ (le 8 b.seq ++ (le 8 b.epoch ++ (le 8 b.reserved ++ (le 8 b.horizon ++ le 8 b.gen))))
theorem encH_len (b : Sb) : (encH b).length = 44 := by simp [encH, le_length]
theorem encA_eq (b : Sb) : encA b = encH b ++ ([if b.clean then 1 else 0] ++ List.replicate 19 0) := by
  have e : encL b 5 = encH b ++ List.replicate 20 0 := by rw [encL_five]; simp only [encH, List.append_assoc]
  unfold encA
  rw [e]
  cases b.clean with
  | true =>
    simp only [if_true]
    rw [List.set_append_right _ _ (by rw [encH_len]; omega), encH_len]
    rfl
  | false => rfl
theorem encB_eq (b : Sb) : encB b = b.enc0 ++ List.replicate 4 0 := by
  have e0 : b.enc0 = (encH b ++ ([if b.clean then 1 else 0] ++ [0, 0, 0])) ++ (le 4 b.img ++ List.replicate 8 0) := by simp only [Sb.enc0, encH, List.append_assoc]
  have eA : encA b = (encH b ++ ([if b.clean then 1 else 0] ++ [0, 0, 0])) ++ (List.replicate 4 0 ++ List.replicate 12 0) := by
    rw [encA_eq]
    simp only [List.append_assoc]
    rfl
  unfold encB
  rw [e0]
  split
  · rename_i h
    have ei : b.img = b.image.toNat := by unfold Sb.img; rw [if_pos h]
    rw [eA, lput_at _ _ _ _ 48 (by simp [encH_len]) (by rw [le_length]; rfl), ei]
    simp only [List.append_assoc]
    rfl
  · rename_i h
    have ei : b.img = 0 := by unfold Sb.img; rw [if_neg h]
    rw [eA, ei]
    simp only [List.append_assoc]
    rfl
theorem encB_len (b : Sb) : (encB b).length = 64 := by rw [encB_eq, List.length_append, Sb.enc0_len]; rfl
theorem encB_fin (b : Sb) : lput (encB b) 60 (le 4 (crc ((encB b).take 60))) = b.enc := by
  have e : (encB b).take 60 = b.enc0 := by rw [encB_eq, ← b.enc0_len, List.take_left]
  rw [e, encB_eq]
  have := lput_at b.enc0 (List.replicate 4 0) [] (le 4 (crc b.enc0)) 60 b.enc0_len (by rw [le_length]; rfl)
  rw [List.append_nil, List.append_nil] at this
  exact this
set_option maxRecDepth 100000 in
set_option maxHeartbeats 4000000 in
theorem encode_calls (b : Sb) (hb : b.Ok) (w : World) :
    Calls Tryz.prog 89 #[sbV b] w fun e w' => ∃ g, e = .returned (.slice (some ⟨g, 0, none⟩) 64 64) ∧ Blk w' g tU8 (bys b.enc).toArray ∧ w.heap.size ≤ g ∧ Chg No w w' := by
  obtain ⟨s, ep, rs, hz, gn, cl, im⟩ := b
  obtain ⟨h1, h2, h3, h4, h5, h6⟩ := hb
  simp only at h1 h2 h3 h4 h5 h6
  have hmk : ∀ W : World, (Instr.makeSlice tBytes (.int .i64 64) (.int .i64 64)).run Tryz.prog W = .ok (.slice (some ⟨W.heap.size, 0, none⟩) 64 64) (W.alloc (.cells (mk 64 (.int .u8 0)) tU8)) := fun W => run_mk W Tryz.underlying40 ti_u8 rfl 64 (by decide) (by decide)
  have HM := fun W => Lib.hid (smagic_calls W)
  simp only [sbV, sbc]
  go_enter Tryz.func89, Tryz.ntmps89
  go_wp2_with fail
  refine (HM _).out.mono ?_
  rintro e w1 ⟨rfl, rfl⟩
  have hP : Blk (((w.alloc (.cells #[.int .u64 s, .int .u64 ep, .int .u64 rs, .int .u64 hz, .int .u64 gn, .bool cl, .int .i64 im] tSb)).alloc (.cells (mk 64 (.int .u8 0)) tU8)).alloc (.cells #[.int .u8 83, .int .u8 85, .int .u8 80, .int .u8 69] tU8)) (w.heap.size + 1) tU8 (mk 64 (.int .u8 0)) := by
    have := (Blk.new (w.alloc (.cells #[.int .u64 s, .int .u64 ep, .int .u64 rs, .int .u64 hz, .int .u64 gn, .bool cl, .int .i64 im] tSb)) tU8 (mk 64 (.int .u8 0))).alloc (.cells #[.int .u8 83, .int .u8 85, .int .u8 80, .int .u8 69] tU8)
    simpa using this
  have hX : Blk (((w.alloc (.cells #[.int .u64 s, .int .u64 ep, .int .u64 rs, .int .u64 hz, .int .u64 gn, .bool cl, .int .i64 im] tSb)).alloc (.cells (mk 64 (.int .u8 0)) tU8)).alloc (.cells #[.int .u8 83, .int .u8 85, .int .u8 80, .int .u8 69] tU8)) w.heap.size tSb #[.int .u64 s, .int .u64 ep, .int .u64 rs, .int .u64 hz, .int .u64 gn, .bool cl, .int .i64 im] := ((Blk.new w _ _).alloc _).alloc _
  have hR := rd_smagic ((w.alloc (.cells #[.int .u64 s, .int .u64 ep, .int .u64 rs, .int .u64 hz, .int .u64 gn, .bool cl, .int .i64 im] tSb)).alloc (.cells (mk 64 (.int .u8 0)) tU8))
  simp only [World.size_alloc] at hR
  have hC : Chg No w (((w.alloc (.cells #[.int .u64 s, .int .u64 ep, .int .u64 rs, .int .u64 hz, .int .u64 gn, .bool cl, .int .i64 im] tSb)).alloc (.cells (mk 64 (.int .u8 0)) tU8)).alloc (.cells #[.int .u8 83, .int .u8 85, .int .u8 80, .int .u8 69] tU8)) := by (repeat (first | (with_reducible exact Chg.refl _ _) | (with_reducible assumption) | (with_reducible refine Chg.drewN ?_ _) | (with_reducible refine Chg.drew ?_) | (with_reducible refine Chg.alloc ?_ _) | (with_reducible refine Chg.setCell ?_ (by first | (left; simp [DevH.foot]; done) | (right; simp; done) | (right; simp; omega)) _)))
  have HP := Lib.hid hP
  have HX := Lib.hid hX
  have HR := Lib.hid hR
  have HC := Lib.hid hC
  clear hP hX hR hC HM hmk
  go_wp2_with (with_reducible refine wpList_cp _ rfl (.tmp 7) (.tmp 8) _ _ rfl tU8 Tryz.underlying40 ti_u8 (w.heap.size + 1) 0 64 64 _ 4 4 rfl rfl tU8 _ HP.out tU8 (bys [83, 85, 80, 69]) HR.out (by rw [mk_size]; omega) bys_one ?_)
  intro w2 hb2 hc2
  have hB : Blk w2 (w.heap.size + 1) tU8 (bys (encL ⟨s, ep, rs, hz, gn, cl, im⟩ 0)).toArray := hb2
  have hX2 := HX.out.chg hc2 (by omega)
  have hC2 : Chg No w w2 := HC.out.then hc2 (fun i hi h => by omega)
  obtain ⟨b, hbe⟩ : ∃ b : Sb, b = ⟨s, ep, rs, hz, gn, cl, im⟩ := ⟨_, rfl⟩
  rw [← hbe] at hB
  have HB := Lib.hid hB
  have HX2 := Lib.hid hX2
  have HC2 := Lib.hid hC2
  have HBE := Lib.hid hbe
  have x0 := hX2.cell 0
  have x1 := hX2.cell 1
  have x2 := hX2.cell 2
  have x3 := hX2.cell 3
  have x4 := hX2.cell 4
  simp at x0 x1 x2 x3 x4
  clear hb2 hc2 hB hX2 hC2 hbe HP HX HR HC
  go_wp2
  have HLN := fun k => Lib.hid (encL_len b k)
  go_loopg [21] 5 (fun gk vi wr => ∃ k : Nat, gk = 5 - k ∧ k ≤ 5 ∧ vi = .int .i64 k ∧ Hid (Blk wr (w.heap.size + 1) tU8 (bys (encL b k)).toArray ∧ Chg (fun j => j = w.heap.size + 1) w2 wr))
  case atStart => exact ⟨0, rfl, Nat.zero_le _, rfl, HB.out, Chg.refl _ _⟩
  case round =>
    obtain ⟨k, rfl, hk, rfl, H⟩ := hrel
    rcases (by omega : k = 0 ∨ k = 1 ∨ k = 2 ∨ k = 3 ∨ k = 4 ∨ k = 5) with rfl | rfl | rfl | rfl | rfl | rfl
    ·
      have hix : ∀ W : World, (Instr.index 158 (.agg #[.int .u64 s, .int .u64 ep, .int .u64 rs, .int .u64 hz, .int .u64 gn]) (.int .i64 0)).run Tryz.prog W = .ok (.int .u64 s) W := fun W => by simp [Instr.index, run_underlying Tryz.underlying158, asIntOf, go_sem]
      have HLY := Lib.hid (slay_calls wr (w.heap.size + 1) 4 8 60 (encL b 0) s H.out.1 (by rw [(HLN 0).out (by omega)]; omega) (by omega) h1)
      have HEL : Hid (encL b (0 + 1) = lput (encL b 0) 4 (le 8 s)) := by show _ = _; rw [HBE.out]; rfl
      have HCR := Lib.hid H.out.2
      clear H
      go_wp2_with fail
      refine HLY.out.mono ?_
      rintro e w3 ⟨rfl, hb3, hc3⟩
      have HB3 := Lib.hid hb3
      have HC3 := Lib.hid (HCR.out.trans hc3)
      clear hb3 hc3 HLY
      go_wp2
      go_roundg (5 - (0 + 1))
      case measure => omega
      case rel => exact ⟨0 + 1, rfl, by omega, by go_num, by rw [HEL.out]; exact HB3.out, HC3.out⟩
    ·
      have hix : ∀ W : World, (Instr.index 158 (.agg #[.int .u64 s, .int .u64 ep, .int .u64 rs, .int .u64 hz, .int .u64 gn]) (.int .i64 1)).run Tryz.prog W = .ok (.int .u64 ep) W := fun W => by simp [Instr.index, run_underlying Tryz.underlying158, asIntOf, go_sem]
      have HLY := Lib.hid (slay_calls wr (w.heap.size + 1) 12 8 52 (encL b 1) ep H.out.1 (by rw [(HLN 1).out (by omega)]; omega) (by omega) h2)
      have HEL : Hid (encL b (1 + 1) = lput (encL b 1) 12 (le 8 ep)) := by show _ = _; rw [HBE.out]; rfl
      have HCR := Lib.hid H.out.2
      clear H
      go_wp2_with fail
      refine HLY.out.mono ?_
      rintro e w3 ⟨rfl, hb3, hc3⟩
      have HB3 := Lib.hid hb3
      have HC3 := Lib.hid (HCR.out.trans hc3)
      clear hb3 hc3 HLY
      go_wp2
      go_roundg (5 - (1 + 1))
      case measure => omega
      case rel => exact ⟨1 + 1, rfl, by omega, by go_num, by rw [HEL.out]; exact HB3.out, HC3.out⟩
    ·
      have hix : ∀ W : World, (Instr.index 158 (.agg #[.int .u64 s, .int .u64 ep, .int .u64 rs, .int .u64 hz, .int .u64 gn]) (.int .i64 2)).run Tryz.prog W = .ok (.int .u64 rs) W := fun W => by simp [Instr.index, run_underlying Tryz.underlying158, asIntOf, go_sem]
      have HLY := Lib.hid (slay_calls wr (w.heap.size + 1) 20 8 44 (encL b 2) rs H.out.1 (by rw [(HLN 2).out (by omega)]; omega) (by omega) h3)
      have HEL : Hid (encL b (2 + 1) = lput (encL b 2) 20 (le 8 rs)) := by show _ = _; rw [HBE.out]; rfl
      have HCR := Lib.hid H.out.2
      clear H
      go_wp2_with fail
      refine HLY.out.mono ?_
      rintro e w3 ⟨rfl, hb3, hc3⟩
      have HB3 := Lib.hid hb3
      have HC3 := Lib.hid (HCR.out.trans hc3)
      clear hb3 hc3 HLY
      go_wp2
      go_roundg (5 - (2 + 1))
      case measure => omega
      case rel => exact ⟨2 + 1, rfl, by omega, by go_num, by rw [HEL.out]; exact HB3.out, HC3.out⟩
    ·
      have hix : ∀ W : World, (Instr.index 158 (.agg #[.int .u64 s, .int .u64 ep, .int .u64 rs, .int .u64 hz, .int .u64 gn]) (.int .i64 3)).run Tryz.prog W = .ok (.int .u64 hz) W := fun W => by simp [Instr.index, run_underlying Tryz.underlying158, asIntOf, go_sem]
      have HLY := Lib.hid (slay_calls wr (w.heap.size + 1) 28 8 36 (encL b 3) hz H.out.1 (by rw [(HLN 3).out (by omega)]; omega) (by omega) h4)
      have HEL : Hid (encL b (3 + 1) = lput (encL b 3) 28 (le 8 hz)) := by show _ = _; rw [HBE.out]; rfl
      have HCR := Lib.hid H.out.2
      clear H
      go_wp2_with fail
      refine HLY.out.mono ?_
      rintro e w3 ⟨rfl, hb3, hc3⟩
      have HB3 := Lib.hid hb3
      have HC3 := Lib.hid (HCR.out.trans hc3)
      clear hb3 hc3 HLY
      go_wp2
      go_roundg (5 - (3 + 1))
      case measure => omega
      case rel => exact ⟨3 + 1, rfl, by omega, by go_num, by rw [HEL.out]; exact HB3.out, HC3.out⟩
    ·
      have hix : ∀ W : World, (Instr.index 158 (.agg #[.int .u64 s, .int .u64 ep, .int .u64 rs, .int .u64 hz, .int .u64 gn]) (.int .i64 4)).run Tryz.prog W = .ok (.int .u64 gn) W := fun W => by simp [Instr.index, run_underlying Tryz.underlying158, asIntOf, go_sem]
      have HLY := Lib.hid (slay_calls wr (w.heap.size + 1) 36 8 28 (encL b 4) gn H.out.1 (by rw [(HLN 4).out (by omega)]; omega) (by omega) h5)
      have HEL : Hid (encL b (4 + 1) = lput (encL b 4) 36 (le 8 gn)) := by show _ = _; rw [HBE.out]; rfl
      have HCR := Lib.hid H.out.2
      clear H
      go_wp2_with fail
      refine HLY.out.mono ?_
      rintro e w3 ⟨rfl, hb3, hc3⟩
      have HB3 := Lib.hid hb3
      have HC3 := Lib.hid (HCR.out.trans hc3)
      clear hb3 hc3 HLY
      go_wp2
      go_roundg (5 - (4 + 1))
      case measure => omega
      case rel => exact ⟨4 + 1, rfl, by omega, by go_num, by rw [HEL.out]; exact HB3.out, HC3.out⟩
    · have hl5 := (HLN 5).out (by omega)
      have x5 := (HX2.out.chg H.out.2 (by omega)).cell 5
      have x6 := (HX2.out.chg H.out.2 (by omega)).cell 6
      simp at x5 x6
      have HB5 := Lib.hid H.out.1
      have HC5 : Hid (Chg No w wr) := HC2.out.then H.out.2 (fun i hi h => by omega)
      have HX5 := Lib.hid (HX2.out.chg H.out.2 (by omega))
      have HCI : Hid (b.clean = cl ∧ b.image = im) := by show _ ∧ _; rw [HBE.out]; exact ⟨rfl, rfl⟩
      clear H x0 x1 x2 x3 x4
      cases cl with
      | true =>
        have hfz := HB5.out.frozen 44
        have hcell : ∃ u, wr.cell? ⟨w.heap.size + 1, 44, none⟩ = some u := by
          rw [HB5.out.cell 44]
          exact ⟨_, Array.getElem?_eq_getElem (by simp [bys_length, hl5])⟩
        obtain ⟨u, hcell⟩ := hcell
        have HBA : Hid (Blk (wr.setCell ⟨w.heap.size + 1, 44, none⟩ (.int .u8 1)) (w.heap.size + 1) tU8 (bys (encA b)).toArray) := by
          have hs := HB5.out.set_ 44 (.int .u8 1)
          have e := bys_set (encL b 5) 44 1
          have e2 : (.int .u8 ((1 : UInt8).toNat : Int) : Value) = .int .u8 1 := rfl
          rw [e2] at e
          rw [e] at hs
          have e3 : encA b = (encL b 5).set 44 1 := by unfold encA; rw [HCI.out.1]; rfl
          rw [e3]; exact hs
        have HXA := Lib.hid (HX5.out.far (p := ⟨w.heap.size + 1, 44, none⟩) (by show w.heap.size ≠ w.heap.size + 1; omega) (.int .u8 1))
        have HCA : Hid (Chg No w (wr.setCell ⟨w.heap.size + 1, 44, none⟩ (.int .u8 1))) := HC5.out.setCell (.inr (by show w.heap.size ≤ w.heap.size + 1; omega)) _
        have x6b : (wr.setCell ⟨w.heap.size + 1, 44, none⟩ (.int .u8 1)).cell? ⟨w.heap.size, 6, none⟩ = some (.int .i64 im) := by have := HXA.out.cell 6; simpa using this
        clear HB5 HX5 HC5
        have HLI : ∀ W : World, Hid (Blk W (w.heap.size + 1) tU8 (bys (encA b)).toArray → 0 ≤ im → im ≤ 2147483647 → Calls Tryz.prog 114 #[.slice (some ⟨w.heap.size + 1, 48, none⟩) 4 16, .int .u64 im] W fun e w' => e = .returned (.tuple #[]) ∧ Blk w' (w.heap.size + 1) tU8 (bys (encB b)).toArray ∧ Chg (fun k => k = w.heap.size + 1) W w') := fun W => fun hb i0 i1 => by
          have := slay_calls W (w.heap.size + 1) 48 4 16 (encA b) im.toNat hb (by rw [encA_eq]; simp [encH_len]) (by omega) (by omega)
          have e64 : ((im.toNat : Nat) : Int) = im := by omega
          have EB : encB b = lput (encA b) 48 (le 4 im.toNat) := by unfold encB; rw [HCI.out.2, if_pos ⟨i0, i1⟩]
          rw [e64, ← EB] at this
          exact this
        have HCRC : ∀ W : World, Hid (Blk W (w.heap.size + 1) tU8 (bys (encB b)).toArray → Calls Tryz.prog 115 #[.slice (some ⟨w.heap.size + 1, 0, none⟩) 60 64] W fun e w' => e = .returned (.int .u32 (crc ((encB b).take 60))) ∧ W = w') := fun W => fun hb =>
          crc_calls (some ⟨w.heap.size + 1, 0, none⟩) 60 64 ((encB b).take 60) W (by
            have := Rd.ofBlk (k := 60) hb (by simp [bys_length, encB_len])
            rw [bys_take]
            simpa using this) (by omega)
        obtain ⟨z, hz⟩ : ∃ z, z = crc ((encB b).take 60) := ⟨_, rfl⟩
        have hzl : z < 4294967296 := by rw [hz]; exact crc_lt _
        rw [← hz] at HCRC
        have HFI : ∀ W : World, Hid (Blk W (w.heap.size + 1) tU8 (bys (encB b)).toArray → Calls Tryz.prog 114 #[.slice (some ⟨w.heap.size + 1, 60, none⟩) 4 4, .int .u64 z] W fun e w' => e = .returned (.tuple #[]) ∧ Blk w' (w.heap.size + 1) tU8 (bys b.enc).toArray ∧ Chg (fun k => k = w.heap.size + 1) W w') := fun W => fun hb => by
          have := slay_calls W (w.heap.size + 1) 60 4 4 (encB b) z hb (by rw [encB_len]; omega) (by omega) (by omega)
          rw [hz, encB_fin, ← hz] at this
          exact this
        clear hz
        by_cases i0 : 0 ≤ im
        · by_cases i1 : im ≤ 2147483647
          · have ew : IntKind.u64.wrap im = im := IntWalk.u64_in _ (by omega)
            go_wp2_with fail
            obtain ⟨wx, hwx⟩ : ∃ wx : World, wx = (wr.setCell ⟨w.heap.size + 1, 44, none⟩ (.int .u8 1)) := ⟨_, rfl⟩
            rw [← hwx] at HBA HXA HCA ⊢
            have x6c := HXA.out.cell 6
            simp at x6c
            have HBD : Hid (Blk wx.drew (w.heap.size + 1) tU8 (bys (encA b)).toArray) := HBA.out.drew
            have HXD : Hid (Blk wx.drew w.heap.size tSb _) := HXA.out.drew
            have HCD : Hid (Chg No w wx.drew) := HCA.out.drew
            clear hwx
            go_still_tail 5, (by kernel_rfl)
            change wpList _ _ _ _ _ wx.drew
            generalize wx.drew = wy at HBD HXD HCD ⊢
            go_wp2_with fail
            refine ((HLI _).out HBD.out i0 i1).mono ?_
            rintro e w3 ⟨rfl, hb3, hc3⟩
            have HBB := Lib.hid hb3
            have HCB : Hid (Chg No w w3) := HCD.out.then hc3 (fun i hi h => by omega)
            clear hb3 hc3
            go_wp2_with fail
            have HBBD : Hid (Blk w3.drew (w.heap.size + 1) tU8 (bys (encB b)).toArray) := HBB.out.drew
            have HCBD : Hid (Chg No w w3.drew) := HCB.out.drew
            go_still_tail 6, (by kernel_rfl)
            still_call (((HCRC w3.drew).out HBBD.out).mono (fun _ _ h => ⟨h.1, h.2.symm⟩))
            repeat still_step
            refine wpStill_nil ?_
            change wpList _ _ _ _ _ w3.drew
            generalize w3.drew = wy at HBBD HCBD ⊢
            go_wp2_with fail
            refine ((HFI _).out HBBD.out).mono ?_
            rintro e w5 ⟨rfl, hb5, hc5⟩
            have HB9 := Lib.hid hb5
            have HC9 : Hid (Chg No w w5) := HCBD.out.then hc5 (fun i hi h => by omega)
            clear hb5 hc5
            go_wp2
            go_ret
            exact ⟨_, rfl, by rw [← HBE.out]; exact HB9.out, Nat.le_succ _, HC9.out⟩
          · have EB : encB b = encA b := by unfold encB; rw [HCI.out.2, if_neg (fun h => i1 h.2)]
            rw [← EB] at HBA
            clear EB
            go_wp2_with fail
            obtain ⟨w3, hwx⟩ : ∃ wx : World, wx = (wr.setCell ⟨w.heap.size + 1, 44, none⟩ (.int .u8 1)) := ⟨_, rfl⟩
            rw [← hwx] at HBA HCA ⊢
            have HBB := HBA
            have HCB := HCA
            clear hwx
            go_wp2_with fail
            have HBBD : Hid (Blk w3.drew (w.heap.size + 1) tU8 (bys (encB b)).toArray) := HBB.out.drew
            have HCBD : Hid (Chg No w w3.drew) := HCB.out.drew
            go_still_tail 6, (by kernel_rfl)
            still_call (((HCRC w3.drew).out HBBD.out).mono (fun _ _ h => ⟨h.1, h.2.symm⟩))
            repeat still_step
            refine wpStill_nil ?_
            change wpList _ _ _ _ _ w3.drew
            generalize w3.drew = wy at HBBD HCBD ⊢
            go_wp2_with fail
            refine ((HFI _).out HBBD.out).mono ?_
            rintro e w5 ⟨rfl, hb5, hc5⟩
            have HB9 := Lib.hid hb5
            have HC9 : Hid (Chg No w w5) := HCBD.out.then hc5 (fun i hi h => by omega)
            clear hb5 hc5
            go_wp2
            go_ret
            exact ⟨_, rfl, by rw [← HBE.out]; exact HB9.out, Nat.le_succ _, HC9.out⟩
        · have EB : encB b = encA b := by unfold encB; rw [HCI.out.2, if_neg (fun h => i0 h.1)]
          rw [← EB] at HBA
          clear EB
          go_wp2_with fail
          obtain ⟨w3, hwx⟩ : ∃ wx : World, wx = (wr.setCell ⟨w.heap.size + 1, 44, none⟩ (.int .u8 1)) := ⟨_, rfl⟩
          rw [← hwx] at HBA HCA ⊢
          have HBB := HBA
          have HCB := HCA
          clear hwx
          go_wp2_with fail
          have HBBD : Hid (Blk w3.drew (w.heap.size + 1) tU8 (bys (encB b)).toArray) := HBB.out.drew
          have HCBD : Hid (Chg No w w3.drew) := HCB.out.drew
          go_still_tail 6, (by kernel_rfl)
          still_call (((HCRC w3.drew).out HBBD.out).mono (fun _ _ h => ⟨h.1, h.2.symm⟩))
          repeat still_step
          refine wpStill_nil ?_
          change wpList _ _ _ _ _ w3.drew
          generalize w3.drew = wy at HBBD HCBD ⊢
          go_wp2_with fail
          refine ((HFI _).out HBBD.out).mono ?_
          rintro e w5 ⟨rfl, hb5, hc5⟩
          have HB9 := Lib.hid hb5
          have HC9 : Hid (Chg No w w5) := HCBD.out.then hc5 (fun i hi h => by omega)
          clear hb5 hc5
          go_wp2
          go_ret
          exact ⟨_, rfl, by rw [← HBE.out]; exact HB9.out, Nat.le_succ _, HC9.out⟩
      | false =>
        have e3 : encA b = encL b 5 := by unfold encA; rw [HCI.out.1]; rfl
        rw [← e3] at HB5
        have HBA := HB5
        have HXA := HX5
        have HCA := HC5
        clear e3
        have HLI : ∀ W : World, Hid (Blk W (w.heap.size + 1) tU8 (bys (encA b)).toArray → 0 ≤ im → im ≤ 2147483647 → Calls Tryz.prog 114 #[.slice (some ⟨w.heap.size + 1, 48, none⟩) 4 16, .int .u64 im] W fun e w' => e = .returned (.tuple #[]) ∧ Blk w' (w.heap.size + 1) tU8 (bys (encB b)).toArray ∧ Chg (fun k => k = w.heap.size + 1) W w') := fun W => fun hb i0 i1 => by
          have := slay_calls W (w.heap.size + 1) 48 4 16 (encA b) im.toNat hb (by rw [encA_eq]; simp [encH_len]) (by omega) (by omega)
          have e64 : ((im.toNat : Nat) : Int) = im := by omega
          have EB : encB b = lput (encA b) 48 (le 4 im.toNat) := by unfold encB; rw [HCI.out.2, if_pos ⟨i0, i1⟩]
          rw [e64, ← EB] at this
          exact this
        have HCRC : ∀ W : World, Hid (Blk W (w.heap.size + 1) tU8 (bys (encB b)).toArray → Calls Tryz.prog 115 #[.slice (some ⟨w.heap.size + 1, 0, none⟩) 60 64] W fun e w' => e = .returned (.int .u32 (crc ((encB b).take 60))) ∧ W = w') := fun W => fun hb =>
          crc_calls (some ⟨w.heap.size + 1, 0, none⟩) 60 64 ((encB b).take 60) W (by
            have := Rd.ofBlk (k := 60) hb (by simp [bys_length, encB_len])
            rw [bys_take]
            simpa using this) (by omega)
        obtain ⟨z, hz⟩ : ∃ z, z = crc ((encB b).take 60) := ⟨_, rfl⟩
        have hzl : z < 4294967296 := by rw [hz]; exact crc_lt _
        rw [← hz] at HCRC
        have HFI : ∀ W : World, Hid (Blk W (w.heap.size + 1) tU8 (bys (encB b)).toArray → Calls Tryz.prog 114 #[.slice (some ⟨w.heap.size + 1, 60, none⟩) 4 4, .int .u64 z] W fun e w' => e = .returned (.tuple #[]) ∧ Blk w' (w.heap.size + 1) tU8 (bys b.enc).toArray ∧ Chg (fun k => k = w.heap.size + 1) W w') := fun W => fun hb => by
          have := slay_calls W (w.heap.size + 1) 60 4 4 (encB b) z hb (by rw [encB_len]; omega) (by omega) (by omega)
          rw [hz, encB_fin, ← hz] at this
          exact this
        clear hz
        by_cases i0 : 0 ≤ im
        · by_cases i1 : im ≤ 2147483647
          · have ew : IntKind.u64.wrap im = im := IntWalk.u64_in _ (by omega)
            go_wp2_with fail
            obtain ⟨wx, hwx⟩ : ∃ wx : World, wx = wr := ⟨_, rfl⟩
            rw [← hwx] at HBA HXA HCA ⊢
            have x6c := HXA.out.cell 6
            simp at x6c
            have HBD : Hid (Blk wx.drew (w.heap.size + 1) tU8 (bys (encA b)).toArray) := HBA.out.drew
            have HXD : Hid (Blk wx.drew w.heap.size tSb _) := HXA.out.drew
            have HCD : Hid (Chg No w wx.drew) := HCA.out.drew
            clear hwx
            go_still_tail 5, (by kernel_rfl)
            change wpList _ _ _ _ _ wx.drew
            generalize wx.drew = wy at HBD HXD HCD ⊢
            go_wp2_with fail
            refine ((HLI _).out HBD.out i0 i1).mono ?_
            rintro e w3 ⟨rfl, hb3, hc3⟩
            have HBB := Lib.hid hb3
            have HCB : Hid (Chg No w w3) := HCD.out.then hc3 (fun i hi h => by omega)
            clear hb3 hc3
            go_wp2_with fail
            have HBBD : Hid (Blk w3.drew (w.heap.size + 1) tU8 (bys (encB b)).toArray) := HBB.out.drew
            have HCBD : Hid (Chg No w w3.drew) := HCB.out.drew
            go_still_tail 6, (by kernel_rfl)
            still_call (((HCRC w3.drew).out HBBD.out).mono (fun _ _ h => ⟨h.1, h.2.symm⟩))
            repeat still_step
            refine wpStill_nil ?_
            change wpList _ _ _ _ _ w3.drew
            generalize w3.drew = wy at HBBD HCBD ⊢
            go_wp2_with fail
            refine ((HFI _).out HBBD.out).mono ?_
            rintro e w5 ⟨rfl, hb5, hc5⟩
            have HB9 := Lib.hid hb5
            have HC9 : Hid (Chg No w w5) := HCBD.out.then hc5 (fun i hi h => by omega)
            clear hb5 hc5
            go_wp2
            go_ret
            exact ⟨_, rfl, by rw [← HBE.out]; exact HB9.out, Nat.le_succ _, HC9.out⟩
          · have EB : encB b = encA b := by unfold encB; rw [HCI.out.2, if_neg (fun h => i1 h.2)]
            rw [← EB] at HBA
            clear EB
            go_wp2_with fail
            obtain ⟨w3, hwx⟩ : ∃ wx : World, wx = wr := ⟨_, rfl⟩
            rw [← hwx] at HBA HCA ⊢
            have HBB := HBA
            have HCB := HCA
            clear hwx
            go_wp2_with fail
            have HBBD : Hid (Blk w3.drew (w.heap.size + 1) tU8 (bys (encB b)).toArray) := HBB.out.drew
            have HCBD : Hid (Chg No w w3.drew) := HCB.out.drew
            go_still_tail 6, (by kernel_rfl)
            still_call (((HCRC w3.drew).out HBBD.out).mono (fun _ _ h => ⟨h.1, h.2.symm⟩))
            repeat still_step
            refine wpStill_nil ?_
            change wpList _ _ _ _ _ w3.drew
            generalize w3.drew = wy at HBBD HCBD ⊢
            go_wp2_with fail
            refine ((HFI _).out HBBD.out).mono ?_
            rintro e w5 ⟨rfl, hb5, hc5⟩
            have HB9 := Lib.hid hb5
            have HC9 : Hid (Chg No w w5) := HCBD.out.then hc5 (fun i hi h => by omega)
            clear hb5 hc5
            go_wp2
            go_ret
            exact ⟨_, rfl, by rw [← HBE.out]; exact HB9.out, Nat.le_succ _, HC9.out⟩
        · have EB : encB b = encA b := by unfold encB; rw [HCI.out.2, if_neg (fun h => i0 h.1)]
          rw [← EB] at HBA
          clear EB
          go_wp2_with fail
          obtain ⟨w3, hwx⟩ : ∃ wx : World, wx = wr := ⟨_, rfl⟩
          rw [← hwx] at HBA HCA ⊢
          have HBB := HBA
          have HCB := HCA
          clear hwx
          go_wp2_with fail
          have HBBD : Hid (Blk w3.drew (w.heap.size + 1) tU8 (bys (encB b)).toArray) := HBB.out.drew
          have HCBD : Hid (Chg No w w3.drew) := HCB.out.drew
          go_still_tail 6, (by kernel_rfl)
          still_call (((HCRC w3.drew).out HBBD.out).mono (fun _ _ h => ⟨h.1, h.2.symm⟩))
          repeat still_step
          refine wpStill_nil ?_
          change wpList _ _ _ _ _ w3.drew
          generalize w3.drew = wy at HBBD HCBD ⊢
          go_wp2_with fail
          refine ((HFI _).out HBBD.out).mono ?_
          rintro e w5 ⟨rfl, hb5, hc5⟩
          have HB9 := Lib.hid hb5
          have HC9 : Hid (Chg No w w5) := HCBD.out.then hc5 (fun i hi h => by omega)
          clear hb5 hc5
          go_wp2
          go_ret
          exact ⟨_, rfl, by rw [← HBE.out]; exact HB9.out, Nat.le_succ _, HC9.out⟩
end Go.Proofs.YtplpbbdakihnfaaGreat
end
