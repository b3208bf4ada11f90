/- image.Load, walked. -/
import Derived.Test.YtinofdfjaopdcaaImgL
import Derived.Test.YtinofdfjaopdcaaImgC
namespace Go.Proofs.Ytinofdfjaopdcaa
open Go.RowKit
attribute [local go_sem ↓] Go.wp_at_zero Go.wp_at_succ
set_option linter.unusedSimpArgs false
set_option linter.unusedVariables false

theorem devn_read {N : Nat} {w : World} {h : DevH} {D : Dev} (hd : DevN N w h D) (hoff : D.off = false) (k : Int) : ((D.readE k = 0 ∧ (D.read k).length = 384) ∨ D.readE k = 1 ∨ D.readE k = 5 ∨ D.readE k = 6) := by
  unfold Dev.readE Dev.read
  rw [hoff]
  by_cases hk : D.has k = true
  · rw [hk]
    simp only [if_true, Bool.false_eq_true, if_false]
    simp only [Dev.has, Bool.and_eq_true, decide_eq_true_eq] at hk
    obtain ⟨es, ps, _, _, _, hp⟩ := page_at hd k.toNat (by omega)
    cases hpg : D.page k.toNat with
    | blank => exact .inr (.inr (.inl rfl))
    | torn => exact .inr (.inr (.inr rfl))
    | full b =>
      rw [hpg] at hp
      rcases hp with ⟨v, _, hp⟩ | ⟨_, v, _, hp⟩
      all_goals
        obtain ⟨_, _, _, _, _, _, _, hl⟩ := hp
        exact .inl ⟨rfl, hl⟩
  · have : D.has k = false := by simpa using hk
    rw [this]
    exact .inr (.inl rfl)

theorem ldB_len {D : Dev} {first : Int} {n : Nat} : ∀ {k : Nat} {b : List UInt8}, D.ldB first n k = .ok b → b.length ≤ 376 * k := by
  intro k
  induction k with
  | zero => intro b h; simp only [Dev.ldB, Except.ok.injEq] at h; subst h; exact Nat.le_refl _
  | succ k ih =>
    intro b h
    rw [Dev.ldB] at h
    cases h1 : D.ldB first n k with
    | error e => rw [h1] at h; cases h
    | ok b1 =>
      rw [h1] at h
      simp only at h
      split at h
      · split at h
        · cases h
        · rename_i c hc
          cases h
          have := ih h1
          unfold ldPage at hc
          split at hc
          · rename_i hh
            cases hc
            rw [List.length_append]
            have : (cut (D.read (first + k)) 8 (8 + num (cut (D.read (first + k)) 2 4))).length ≤ num (cut (D.read (first + k)) 2 4) := by
              unfold cut
              rw [List.length_take]; omega
            omega
          · cases hc
      · cases h

/-- what magic laid -/
theorem rd_magic (W : World) : Rd (W.alloc (.cells #[.int .u8 73, .int .u8 77] tU8)) tU8 (some ⟨W.heap.size, 0, none⟩) 2 (bys [73, 77]) := by
  have := Rd.ofBlk (k := 2) (Blk.new W tU8 #[.int .u8 73, .int .u8 77]) (by simp)
  simpa [bys] using this

set_option maxRecDepth 100000 in
set_option maxHeartbeats 4000000 in
theorem load_calls {N : Nat} {w : World} {h : DevH} {D : Dev} (hd : DevN N w h D) (first n : Int) (hf : -9223372036854775808 ≤ first ∧ first ≤ 9223372036854775807) (hp : -9223372036854775808 ≤ n ∧ n ≤ 9223372036854775807) :
    Calls Try.prog 18 #[.pointer (some ⟨h.d, 0, none⟩), .int .i64 first, .int .i64 n] w fun e w' => ∃ v, e = .returned (.tuple #[v, .int .i64 (D.load first n).2]) ∧ w'.ownsRow w.heap.size tItem 5 v (D.load first n).1.length (its (D.load first n).1) ∧
      DevN N w' h D ∧ Chg h.foot w w' := by
  have HM := fun W => Lib.hid (fun hc : Chg No w W => imay_calls (hd.chgNo hc) first n hf hp)
  have HPO := fun W => Lib.hid (fun hc : Chg No w W => power_calls (hd.chgNo hc))
  have hnm := hd.nmost
  have HD := Lib.hid hd
  clear hd
  cases hmay : D.may first n with
  | false =>
    rw [hmay] at HM
    have HL : Hid (D.load first n = ([], 1)) := by show _ = _; unfold Dev.load; rw [hmay]; rfl
    clear hmay HPO
    go_enter Try.func18, Try.ntmps18
    go_wp2_with fail
    refine ((HM _).out (by (repeat (first | (with_reducible exact Chg.refl _ _) | (with_reducible assumption) | (with_reducible refine Chg.drewN ?_ _) | (with_reducible refine Chg.drew ?_) | (with_reducible refine Chg.alloc ?_ _) | (with_reducible refine Chg.setCell ?_ (by first | (left; simp [DevH.foot]; done) | (right; simp; done) | (right; simp; omega)) _))))).mono ?_
    rintro e w1 ⟨rfl, hc1⟩
    have HC1 := Lib.hid hc1
    clear hc1
    go_wp2
    go_ret2
    exact ⟨_, by rw [HL.out]; rfl, by rw [HL.out]; exact World.ownsRow_nil _ _ _ _, HD.out.chgNo HC1.out, HC1.out.mono (fun _ _ h => h.elim)⟩
  | true =>
    rw [hmay] at HM
    cases hoff : D.off with
    | true =>
      have HL : Hid (D.load first n = ([], 4)) := by show _ = _; unfold Dev.load; rw [hmay, hoff]; rfl
      rw [hoff] at HPO
      clear hmay hoff
      go_enter Try.func18, Try.ntmps18
      go_wp2_with fail
      refine ((HM _).out (by (repeat (first | (with_reducible exact Chg.refl _ _) | (with_reducible assumption) | (with_reducible refine Chg.drewN ?_ _) | (with_reducible refine Chg.drew ?_) | (with_reducible refine Chg.alloc ?_ _) | (with_reducible refine Chg.setCell ?_ (by first | (left; simp [DevH.foot]; done) | (right; simp; done) | (right; simp; omega)) _))))).mono ?_
      rintro e w1 ⟨rfl, hc1⟩
      have HC1 := Lib.hid hc1
      clear hc1
      go_wp2_with fail
      refine ((HPO _).out HC1.out).mono ?_
      rintro e w2 ⟨rfl, rfl⟩
      go_wp2
      go_ret2
      exact ⟨_, by rw [HL.out]; rfl, by rw [HL.out]; exact World.ownsRow_nil _ _ _ _, HD.out.chgNo HC1.out, HC1.out.mono (fun _ _ h => h.elim)⟩
    | false =>
      obtain ⟨f, p, rfl, rfl, hfp⟩ := may_nat hmay
      have HL : Hid (D.load (f : Int) (p : Int) = match D.ldB f p p with
        | .error e => ([], e)
        | .ok b => match loadOf b with
          | some l => (l, 0)
          | none => ([], 3)) := by show _ = _; unfold Dev.load; rw [hmay, hoff]; simp only [if_true, Bool.false_eq_true, if_false, Int.toNat_natCast]; rfl
      rw [hoff] at HPO
      have HOFF := Lib.hid hoff
      obtain ⟨er, her⟩ : ∃ er, er = D.load (f : Int) (p : Int) := ⟨_, rfl⟩
      rw [← her] at HL ⊢
      have hpl : p ≤ 4096 := by omega
      have hfl : f ≤ 4096 := by omega
      clear hmay hoff her hnm hfp
      go_enter Try.func18, Try.ntmps18
      go_wp2_with fail
      refine ((HM _).out (by (repeat (first | (with_reducible exact Chg.refl _ _) | (with_reducible assumption) | (with_reducible refine Chg.drewN ?_ _) | (with_reducible refine Chg.drew ?_) | (with_reducible refine Chg.alloc ?_ _) | (with_reducible refine Chg.setCell ?_ (by first | (left; simp [DevH.foot]; done) | (right; simp; done) | (right; simp; omega)) _))))).mono ?_
      rintro e w1 ⟨rfl, hc1⟩
      have HC1 := Lib.hid hc1
      clear hc1
      go_wp2_with fail
      refine ((HPO _).out HC1.out).mono ?_
      rintro e w2 ⟨rfl, rfl⟩
      clear HM HPO
      go_wp2
      go_loopg [8, 28] p (fun g v8 v28 wr => ∃ (k : Nat) (Ab : Option Addr) (nb cb : Nat) (b : List UInt8), v28 = .int .i64 k ∧ k ≤ p ∧ p - k = g ∧ v8 = .slice Ab nb cb ∧ nb ≤ cb ∧ nb ≤ 376 * k ∧
        Hid (wr.ownsRow w.heap.size tU8 1 (.slice Ab nb cb) nb (bys b) ∧ D.ldB f p k = .ok b ∧ DevN N wr h D ∧ Chg h.foot w wr))
      case atStart => exact ⟨0, none, 0, 0, [], rfl, by omega, by omega, rfl, by omega, by omega, ⟨World.ownsRow_nil _ _ _ _, rfl, HD.out.chgNo HC1.out, HC1.out.mono (fun _ _ h => h.elim)⟩⟩
      case round =>
        obtain ⟨k, Ab, nb, cb, b, rfl, hk, hgk, rfl, hnc, hnb, H⟩ := hrel
        subst hgk
        by_cases h0 : k < p
        · have hki : (k : Int) < (p : Int) := by omega
          have hwf : IntKind.i64.wrap ((f : Int) + (k : Int)) = (f : Int) + (k : Int) := IntWalk.i64_in _ (by omega)
          have hrd := read_calls H.out.2.2.1 ((f : Int) + (k : Int))
          rcases devn_read H.out.2.2.1 HOFF.out ((f : Int) + (k : Int)) with ⟨h1, h2⟩ | h1
          rotate_left
          · rcases h1 with h1 | h1 | h1
            all_goals
              rw [h1] at hrd
              have HRD := Lib.hid hrd
              have HBAD : Hid (er = ([], 3)) := by
                show _ = _
                rw [HL.out, Dev.ldB_err (k := k + 1) (e := 3) (by rw [Dev.ldB, H.out.2.1]; simp only; rw [h1]; rfl) (by omega)]
              clear hrd h1
              go_wp2_with fail
              refine HRD.out.mono ?_
              rintro e w3 ⟨v, rfl, ho, hd3, hc3⟩
              have HD3 := Lib.hid hd3
              have HC3 : Hid (Chg h.foot w w3) := H.out.2.2.2.trans hc3
              clear ho hd3 hc3
              go_wp2_with fail
              go_quiet (fail)
              go_wp2
              go_ret2
              exact ⟨_, by rw [HBAD.out]; rfl, by rw [HBAD.out]; exact World.ownsRow_nil _ _ _ _, HD3.out.chgNo (by (repeat (first | (with_reducible exact Chg.refl _ _) | (with_reducible assumption) | (with_reducible refine Chg.drewN ?_ _) | (with_reducible refine Chg.drew ?_) | (with_reducible refine Chg.alloc ?_ _) | (with_reducible refine Chg.setCell ?_ (by first | (left; simp [DevH.foot]; done) | (right; simp; done) | (right; simp; omega)) _)))), HC3.out.drewN _⟩
          rw [h1] at hrd
          have HRD := Lib.hid hrd
          have HE := Lib.hid h1
          clear hrd h1
          obtain ⟨pg, hpg⟩ : ∃ pg, pg = D.read ((f : Int) + (k : Int)) := ⟨_, rfl⟩
          rw [← hpg] at HRD h2
          rw [h2] at HRD
          have HPG := Lib.hid hpg
          have HPL := Lib.hid h2
          clear hpg h2
          go_wp2_with fail
          refine HRD.out.mono ?_
          rintro e w3 ⟨v, rfl, ho, hd3, hc3⟩
          have HD3 := Lib.hid hd3
          have HC3 : Hid (Chg h.foot w w3) := H.out.2.2.2.trans hc3
          have HO3 : Hid (w3.ownsRow w.heap.size tU8 1 (.slice Ab nb cb) nb (bys b)) := own_chg H.out.1 hc3 (own_foot H.out.2.2.1 H.out.1 (by decide) (by decide))
          obtain ⟨Ap, cp, rfl, hncp, hrp⟩ := own_slice ho
          have HRP := Lib.hid hrp
          clear ho hd3 hc3 hrp HRD
          obtain ⟨A1, hs1, hd1⟩ := sub_slice_h (P := Try.prog) Try.underlying40 ti_u8 Ap 384 cp 2 (by omega)
          have hs1' : ∀ W : World, (Instr.sliceAt tBytes (.slice Ap 384 cp) none (some (.int .i64 2)) none).run Try.prog W = _ := fun W => (run_sliceAt_slice W tBytes _ _ _ _ Try.underlying40).trans (hs1 W)
          obtain ⟨A2, hs2, hd2⟩ := sub_slice (P := Try.prog) Try.underlying40 ti_u8 Ap 384 cp 4 8 (by omega) (by omega) (by omega)
          have hs2' : ∀ W : World, (Instr.sliceAt tBytes (.slice Ap 384 cp) (some (.int .i64 4)) (some (.int .i64 8)) none).run Try.prog W = _ := fun W => (run_sliceAt_slice W tBytes _ _ _ _ Try.underlying40).trans (hs2 W)
          obtain ⟨A3, hs3, hd3⟩ := sub_slice (P := Try.prog) Try.underlying40 ti_u8 Ap 384 cp 2 4 (by omega) (by omega) (by omega)
          have HD1 : Hid (∀ W, Chg No w3 W → Rd W tU8 A1 2 (bys (pg.take 2))) := fun W hc => by rw [bys_take]; exact hd1 W tU8 (bys pg) (HRP.out.chg hc (fun _ _ _ _ h => h)) (by omega)
          have HD2 : Hid (∀ W, Chg No w3 W → Rd W tU8 A2 4 (bys (cut pg 4 8))) := fun W hc => by unfold cut; rw [bys_take, bys_drop]; exact hd2 W tU8 (bys pg) (HRP.out.chg hc (fun _ _ _ _ h => h)) (by omega)
          have HD3' : Hid (∀ W, Chg No w3 W → Rd W tU8 A3 2 (bys (cut pg 2 4))) := fun W hc => by unfold cut; rw [bys_take, bys_drop]; exact hd3 W tU8 (bys pg) (HRP.out.chg hc (fun _ _ _ _ h => h)) (by omega)
          clear hd1 hd2 hd3
          simp only [Int.reduceToNat, Nat.reduceSub] at hs2 hs2' hs3
          obtain ⟨q1, hq1⟩ : ∃ q1, q1 = decide (pg.take 2 = [73, 77]) := ⟨_, rfl⟩
          obtain ⟨q2, hq2⟩ : ∃ q2, q2 = num (cut pg 4 8) := ⟨_, rfl⟩
          have HEQ : ∀ (W : World) (B : Option Addr), Hid (Chg No w3 W → Rd W tU8 B 2 (bys [73, 77]) → Calls Try.prog 54 #[.slice A1 2 cp, .slice B 2 2] W fun e w' => e = .returned (.bool q1) ∧ Chg No W w') := fun W B => fun hc hr => by
            rw [hq1]; exact equal_calls A1 B 2 2 cp 2 _ _ W (HD1.out W hc) hr (by omega) (by omega)
          have HNU : ∀ (W : World), Hid (Chg No w3 W → Calls Try.prog 55 #[.slice A2 4 (cp - 4)] W fun e w' => e = .returned (.int .i64 q2) ∧ W = w') := fun W => fun hc => by
            rw [hq2]; exact inumber_calls A2 4 _ _ W (HD2.out W hc) (by omega)
          have HLP : Hid (∀ c : Bool, ldPage pg k p = if q1 = true ∧ q2 = k ∧ num (cut pg 2 4) ≤ 376 ∧ ¬ (num (cut pg 2 4) < 376 ∧ k + 1 < p) then some (cut pg 8 (8 + num (cut pg 2 4))) else none) := fun _ => by
            unfold ldPage; rw [hq1, hq2]; simp only [decide_eq_true_eq]
          clear hq1 hq2 HD1 HD2
          have hki2 : (k : Int) ≤ 4096 := by omega
          go_wp2_with fail
          by_cases hgood : q1 = true ∧ q2 = k
          rotate_left
          · have HBAD : Hid (er = ([], 3)) := by
              show _ = _
              rw [HL.out, Dev.ldB_err (k := k + 1) (e := 3) (by rw [Dev.ldB, H.out.2.1]; simp only; rw [HE.out, if_pos rfl, ← HPG.out, HLP.out true, if_neg (fun hh => hgood ⟨hh.1, hh.2.1⟩)]) (by omega)]
            cases q1 with
            | false =>
              clear HLP hgood HNU hs2 hs2' hs3
              first
                | (go_region_with
                    ((first
                      | (go_at_call 52; refine (magic_calls _).mono ?_; rintro e w' ⟨rfl, rfl⟩)
                      | (go_at_call 54; refine ((HEQ _ _).out (by (repeat (first | (with_reducible exact Chg.refl _ _) | (with_reducible assumption) | (with_reducible refine Chg.drewN ?_ _) | (with_reducible refine Chg.drew ?_) | (with_reducible refine Chg.alloc ?_ _) | (with_reducible refine Chg.setCell ?_ (by first | (left; simp [DevH.foot]; done) | (right; simp; done) | (right; simp; omega)) _)))) (by first | exact rd_magic _ | exact (rd_magic _).drewN _)).mono ?_; rintro e w' ⟨rfl, hc'⟩; have hc9 : Chg No w3 w' := (by (repeat (first | (with_reducible exact Chg.refl _ _) | (with_reducible assumption) | (with_reducible refine Chg.drewN ?_ _) | (with_reducible refine Chg.drew ?_) | (with_reducible refine Chg.alloc ?_ _) | (with_reducible refine Chg.setCell ?_ (by first | (left; simp [DevH.foot]; done) | (right; simp; done) | (right; simp; omega)) _))) : Chg No w3 _).trans hc'; clear hc'))))
                | fail "region"
              all_goals
                go_wp2
                go_ret2
                exact ⟨_, by rw [HBAD.out]; rfl, by rw [HBAD.out]; exact World.ownsRow_nil _ _ _ _, HD3.out.chgNo (by (repeat (first | (with_reducible exact Chg.refl _ _) | (with_reducible assumption) | (with_reducible refine Chg.drewN ?_ _) | (with_reducible refine Chg.drew ?_) | (with_reducible refine Chg.alloc ?_ _) | (with_reducible refine Chg.setCell ?_ (by first | (left; simp [DevH.foot]; done) | (right; simp; done) | (right; simp; omega)) _)))), HC3.out.then (by (repeat (first | (with_reducible exact Chg.refl _ _) | (with_reducible assumption) | (with_reducible refine Chg.drewN ?_ _) | (with_reducible refine Chg.drew ?_) | (with_reducible refine Chg.alloc ?_ _) | (with_reducible refine Chg.setCell ?_ (by first | (left; simp [DevH.foot]; done) | (right; simp; done) | (right; simp; omega)) _))) : Chg No w3 _) (fun _ _ h => h.elim)⟩
            | true =>
              have hm2 : ((q2 : Int) != (k : Int)) = true := by simp; intro hh; exact hgood ⟨rfl, by omega⟩
              have hm3 : ¬ (q2 : Int) = (k : Int) := by simpa using hm2
              clear HLP hgood hs3
              go_region_held3 (fun w' => Chg No w3 w') (first | assumption | ((repeat (first | (with_reducible exact Chg.refl _ _) | (with_reducible assumption) | (with_reducible refine Chg.drewN ?_ _) | (with_reducible refine Chg.drew ?_) | (with_reducible refine Chg.alloc ?_ _) | (with_reducible refine Chg.setCell ?_ (by first | (left; simp [DevH.foot]; done) | (right; simp; done) | (right; simp; omega)) _))); done))
                ((first
                  | (go_at_call 52; refine (magic_calls _).mono ?_; rintro e w' ⟨rfl, rfl⟩)
                  | (go_at_call 54; refine ((HEQ _ _).out (by (repeat (first | (with_reducible exact Chg.refl _ _) | (with_reducible assumption) | (with_reducible refine Chg.drewN ?_ _) | (with_reducible refine Chg.drew ?_) | (with_reducible refine Chg.alloc ?_ _) | (with_reducible refine Chg.setCell ?_ (by first | (left; simp [DevH.foot]; done) | (right; simp; done) | (right; simp; omega)) _)))) (by first | exact rd_magic _ | exact (rd_magic _).drewN _)).mono ?_; rintro e w' ⟨rfl, hc'⟩; have hc9 : Chg No w3 w' := (by (repeat (first | (with_reducible exact Chg.refl _ _) | (with_reducible assumption) | (with_reducible refine Chg.drewN ?_ _) | (with_reducible refine Chg.drew ?_) | (with_reducible refine Chg.alloc ?_ _) | (with_reducible refine Chg.setCell ?_ (by first | (left; simp [DevH.foot]; done) | (right; simp; done) | (right; simp; omega)) _))) : Chg No w3 _).trans hc'; clear hc')
                  | (go_at_call 55; refine ((HNU _).out (by (repeat (first | (with_reducible exact Chg.refl _ _) | (with_reducible assumption) | (with_reducible refine Chg.drewN ?_ _) | (with_reducible refine Chg.drew ?_) | (with_reducible refine Chg.alloc ?_ _) | (with_reducible refine Chg.setCell ?_ (by first | (left; simp [DevH.foot]; done) | (right; simp; done) | (right; simp; omega)) _))))).mono ?_; rintro e w' ⟨rfl, rfl⟩)))
              all_goals
                go_wp2
                go_ret2
                exact ⟨_, by rw [HBAD.out]; rfl, by rw [HBAD.out]; exact World.ownsRow_nil _ _ _ _, HD3.out.chgNo (by (repeat (first | (with_reducible exact Chg.refl _ _) | (with_reducible assumption) | (with_reducible refine Chg.drewN ?_ _) | (with_reducible refine Chg.drew ?_) | (with_reducible refine Chg.alloc ?_ _) | (with_reducible refine Chg.setCell ?_ (by first | (left; simp [DevH.foot]; done) | (right; simp; done) | (right; simp; omega)) _)))), HC3.out.then (by (repeat (first | (with_reducible exact Chg.refl _ _) | (with_reducible assumption) | (with_reducible refine Chg.drewN ?_ _) | (with_reducible refine Chg.drew ?_) | (with_reducible refine Chg.alloc ?_ _) | (with_reducible refine Chg.setCell ?_ (by first | (left; simp [DevH.foot]; done) | (right; simp; done) | (right; simp; omega)) _))) : Chg No w3 _) (fun _ _ h => h.elim)⟩
          obtain ⟨rfl, rfl⟩ : q1 = true ∧ k = q2 := ⟨hgood.1, hgood.2.symm⟩
          go_region_held3 (fun w' => Chg No w3 w') (first | assumption | ((repeat (first | (with_reducible exact Chg.refl _ _) | (with_reducible assumption) | (with_reducible refine Chg.drewN ?_ _) | (with_reducible refine Chg.drew ?_) | (with_reducible refine Chg.alloc ?_ _) | (with_reducible refine Chg.setCell ?_ (by first | (left; simp [DevH.foot]; done) | (right; simp; done) | (right; simp; omega)) _))); done))
            ((first
              | (go_at_call 52; refine (magic_calls _).mono ?_; rintro e w' ⟨rfl, rfl⟩)
              | (go_at_call 54; refine ((HEQ _ _).out (by (repeat (first | (with_reducible exact Chg.refl _ _) | (with_reducible assumption) | (with_reducible refine Chg.drewN ?_ _) | (with_reducible refine Chg.drew ?_) | (with_reducible refine Chg.alloc ?_ _) | (with_reducible refine Chg.setCell ?_ (by first | (left; simp [DevH.foot]; done) | (right; simp; done) | (right; simp; omega)) _)))) (by first | exact rd_magic _ | exact (rd_magic _).drewN _)).mono ?_; rintro e w' ⟨rfl, hc'⟩; have hc9 : Chg No w3 w' := (by (repeat (first | (with_reducible exact Chg.refl _ _) | (with_reducible assumption) | (with_reducible refine Chg.drewN ?_ _) | (with_reducible refine Chg.drew ?_) | (with_reducible refine Chg.alloc ?_ _) | (with_reducible refine Chg.setCell ?_ (by first | (left; simp [DevH.foot]; done) | (right; simp; done) | (right; simp; omega)) _))) : Chg No w3 _).trans hc'; clear hc')
              | (go_at_call 55; refine ((HNU _).out (by (repeat (first | (with_reducible exact Chg.refl _ _) | (with_reducible assumption) | (with_reducible refine Chg.drewN ?_ _) | (with_reducible refine Chg.drew ?_) | (with_reducible refine Chg.alloc ?_ _) | (with_reducible refine Chg.setCell ?_ (by first | (left; simp [DevH.foot]; done) | (right; simp; done) | (right; simp; omega)) _))))).mono ?_; rintro e w' ⟨rfl, rfl⟩)))
          obtain ⟨q3, hq3⟩ : ∃ q3, q3 = num (cut pg 2 4) := ⟨_, rfl⟩
          have HNU3 : ∀ (W : World), Hid (Chg No w3 W → Calls Try.prog 55 #[.slice A3 2 (cp - 2)] W fun e w' => e = .returned (.int .i64 q3) ∧ W = w') := fun W => fun hc => by
            rw [hq3]; exact inumber_calls A3 2 _ _ W (HD3'.out W hc) (by omega)
          have hq3l : q3 < 65536 := by
            rw [hq3]; have := num_cut_lt pg 2 4; simpa using this
          have HLP2 : Hid (ldPage pg k p = if q3 ≤ 376 ∧ ¬ (q3 < 376 ∧ k + 1 < p) then some (cut pg 8 (8 + q3)) else none) := by
            show _ = _
            rw [HLP.out true, hq3]
            simp only [true_and]
          clear HLP hq3 hs1 hs1' hs2 hs2' HD3' HNU HEQ
          have hwp : IntKind.i64.wrap ((p : Int) - 1) = (p : Int) - 1 := IntWalk.i64_in _ (by omega)
          by_cases hbad : q3 ≤ 376 ∧ ¬ (q3 < 376 ∧ k + 1 < p)
          rotate_left
          · have HBAD : Hid (er = ([], 3)) := by
              show _ = _
              rw [HL.out, Dev.ldB_err (k := k + 1) (e := 3) (by rw [Dev.ldB, H.out.2.1]; simp only; rw [HE.out, if_pos rfl, ← HPG.out, HLP2.out, if_neg hbad]) (by omega)]
            by_cases m1 : q3 ≤ 376
            · have m2 : q3 < 376 := by omega
              have m3 : k + 1 < p := by omega
              have b1 : decide ((376 : Int) < (q3 : Int)) = false := by simp; omega
              have b2 : decide ((q3 : Int) < (376 : Int)) = true := by simp; omega
              have b3 : decide ((k : Int) < (p : Int) - 1) = true := by simp; omega
              clear hbad m1 m2 m3 HLP2
              go_wp2_with fail
              refine ((HNU3 _).out (by (repeat (first | (with_reducible exact Chg.refl _ _) | (with_reducible assumption) | (with_reducible refine Chg.drewN ?_ _) | (with_reducible refine Chg.drew ?_) | (with_reducible refine Chg.alloc ?_ _) | (with_reducible refine Chg.setCell ?_ (by first | (left; simp [DevH.foot]; done) | (right; simp; done) | (right; simp; omega)) _))))).mono ?_
              rintro e w4 ⟨rfl, rfl⟩
              go_wp2
              go_ret2
              exact ⟨_, by rw [HBAD.out]; rfl, by rw [HBAD.out]; exact World.ownsRow_nil _ _ _ _, HD3.out.chgNo (by (repeat (first | (with_reducible exact Chg.refl _ _) | (with_reducible assumption) | (with_reducible refine Chg.drewN ?_ _) | (with_reducible refine Chg.drew ?_) | (with_reducible refine Chg.alloc ?_ _) | (with_reducible refine Chg.setCell ?_ (by first | (left; simp [DevH.foot]; done) | (right; simp; done) | (right; simp; omega)) _)))), HC3.out.then (by (repeat (first | (with_reducible exact Chg.refl _ _) | (with_reducible assumption) | (with_reducible refine Chg.drewN ?_ _) | (with_reducible refine Chg.drew ?_) | (with_reducible refine Chg.alloc ?_ _) | (with_reducible refine Chg.setCell ?_ (by first | (left; simp [DevH.foot]; done) | (right; simp; done) | (right; simp; omega)) _))) : Chg No w3 _) (fun _ _ h => h.elim)⟩
            · have b1 : decide ((376 : Int) < (q3 : Int)) = true := by simp; omega
              clear hbad m1 HLP2
              go_wp2_with fail
              refine ((HNU3 _).out (by (repeat (first | (with_reducible exact Chg.refl _ _) | (with_reducible assumption) | (with_reducible refine Chg.drewN ?_ _) | (with_reducible refine Chg.drew ?_) | (with_reducible refine Chg.alloc ?_ _) | (with_reducible refine Chg.setCell ?_ (by first | (left; simp [DevH.foot]; done) | (right; simp; done) | (right; simp; omega)) _))))).mono ?_
              rintro e w4 ⟨rfl, rfl⟩
              go_wp2
              go_ret2
              exact ⟨_, by rw [HBAD.out]; rfl, by rw [HBAD.out]; exact World.ownsRow_nil _ _ _ _, HD3.out.chgNo (by (repeat (first | (with_reducible exact Chg.refl _ _) | (with_reducible assumption) | (with_reducible refine Chg.drewN ?_ _) | (with_reducible refine Chg.drew ?_) | (with_reducible refine Chg.alloc ?_ _) | (with_reducible refine Chg.setCell ?_ (by first | (left; simp [DevH.foot]; done) | (right; simp; done) | (right; simp; omega)) _)))), HC3.out.then (by (repeat (first | (with_reducible exact Chg.refl _ _) | (with_reducible assumption) | (with_reducible refine Chg.drewN ?_ _) | (with_reducible refine Chg.drew ?_) | (with_reducible refine Chg.alloc ?_ _) | (with_reducible refine Chg.setCell ?_ (by first | (left; simp [DevH.foot]; done) | (right; simp; done) | (right; simp; omega)) _))) : Chg No w3 _) (fun _ _ h => h.elim)⟩
          obtain ⟨A4, hs4, hd4⟩ := sub_slice (P := Try.prog) Try.underlying40 ti_u8 Ap 384 cp 8 (8 + (q3 : Int)) (by omega) (by omega) (by omega)
          have hq38 : q3 ≤ 376 := hbad.1
          have hw8 : IntKind.i64.wrap (8 + (q3 : Int)) = 8 + (q3 : Int) := IntWalk.i64_in _ (by omega)
          have et : (8 + (q3 : Int)).toNat - 8 = q3 := by omega
          have hlp : ldPage pg k p = some (cut pg 8 (8 + q3)) := by rw [HLP2.out, if_pos hbad]
          have HB1 : Hid (D.ldB f p (k + 1) = .ok (b ++ cut pg 8 (8 + q3))) := by
            show _ = _
            rw [Dev.ldB, H.out.2.1]; simp only; rw [HE.out, if_pos rfl, ← HPG.out, hlp]
          have HD4 : Hid (∀ W, Chg No w3 W → Rd W tU8 A4 (q3 * 1) (bys (cut pg 8 (8 + q3)))) := fun W hc => by
            have := hd4 W tU8 (bys pg) (HRP.out.chg hc (fun _ _ _ _ h => h)) (by omega)
            unfold cut
            rw [bys_take, bys_drop, Nat.add_sub_cancel_left, Nat.mul_one]
            simpa [et] using this
          simp only [Int.reduceToNat, et] at hs4
          have g1 : ¬ (376 : Int) < (q3 : Int) := by omega
          have b1 : decide ((376 : Int) < (q3 : Int)) = false := by simp; omega
          have i8 : (8 : Int) ≤ 8 + (q3 : Int) := by omega
          clear hd4 hlp HLP2
          by_cases m2 : q3 < 376
          · have b2 : decide ((q3 : Int) < (376 : Int)) = true := by simp; omega
            have b3 : decide ((k : Int) < (p : Int) - 1) = false := by simp; omega
            clear hbad
            go_wp2_with fail
            refine ((HNU3 _).out (by (repeat (first | (with_reducible exact Chg.refl _ _) | (with_reducible assumption) | (with_reducible refine Chg.drewN ?_ _) | (with_reducible refine Chg.drew ?_) | (with_reducible refine Chg.alloc ?_ _) | (with_reducible refine Chg.setCell ?_ (by first | (left; simp [DevH.foot]; done) | (right; simp; done) | (right; simp; omega)) _))))).mono ?_
            rintro e w4 ⟨rfl, hw4⟩
            have HC4 : Hid (Chg No w3 w4) := by show Chg No w3 w4; rw [← hw4]; (repeat (first | (with_reducible exact Chg.refl _ _) | (with_reducible assumption) | (with_reducible refine Chg.drewN ?_ _) | (with_reducible refine Chg.drew ?_) | (with_reducible refine Chg.alloc ?_ _) | (with_reducible refine Chg.setCell ?_ (by first | (left; simp [DevH.foot]; done) | (right; simp; done) | (right; simp; omega)) _)))
            have HO4 := Lib.hid (own_chg HO3.out HC4.out (fun _ _ h => h))
            clear hw4
            go_wp2_with (first
              | (at_builtin; go_loud (refine wpList_app _ rfl (.tmp 73) (.tmp 77) tBytes rfl tU8 Try.underlying40 ti_u8 rfl (by omega) w.heap.size _ nb _ rfl HO4.out tU8 A4 q3 _ _ rfl (HD4.out _ HC4.out) bys_one_cell (by simp only [maxLen]; omega) (by omega) (by have h1 := HC3.out.size; have h2 := HC4.out.size; omega) ?_); intro v5 w5 ho5 hg5 hb5; have HO5 := Lib.hid ho5; have HG5 := Lib.hid hg5; clear ho5 hg5 hb5))
            obtain ⟨A5, c5, rfl, hnc5, _⟩ := own_slice HO5.out
            go_roundg (p - (k + 1))
            case measure => omega
            case rel =>
              refine ⟨k + 1, A5, nb + q3, c5, b ++ cut pg 8 (8 + q3), by go_num, by omega, rfl, rfl, hnc5, by omega, ?_, HB1.out, ?_, ?_⟩
              · rw [bys_append]; exact HO5.out
              · exact (HD3.out.chgNo HC4.out).chg (Chg.grown (Chg.refl (fun i => (Value.slice Ab nb cb).ownBlock = some i) w4) HG5.out (fun k' hk' => .inl hk')) (fun hS => own_foot (HD3.out.chgNo HC4.out) HO4.out (by decide) (by decide) _ hS (.inl rfl)) (fun hS => own_foot (HD3.out.chgNo HC4.out) HO4.out (by decide) (by decide) _ hS (.inr (.inl rfl))) (fun hS => own_foot (HD3.out.chgNo HC4.out) HO4.out (by decide) (by decide) _ hS (.inr (.inr rfl))) (fun g cs T hg _ _ hS => by have h1 := own_new HO4.out _ hS; have h2 := HD.out.below; omega)
              · exact (HC3.out.then HC4.out (fun _ _ h => h.elim)).grown HG5.out (fun k' hk' => .inr (own_new HO4.out k' hk'))
          · have b2 : decide ((q3 : Int) < (376 : Int)) = false := by simp; omega
            clear hbad
            go_wp2_with fail
            refine ((HNU3 _).out (by (repeat (first | (with_reducible exact Chg.refl _ _) | (with_reducible assumption) | (with_reducible refine Chg.drewN ?_ _) | (with_reducible refine Chg.drew ?_) | (with_reducible refine Chg.alloc ?_ _) | (with_reducible refine Chg.setCell ?_ (by first | (left; simp [DevH.foot]; done) | (right; simp; done) | (right; simp; omega)) _))))).mono ?_
            rintro e w4 ⟨rfl, hw4⟩
            have HC4 : Hid (Chg No w3 w4) := by show Chg No w3 w4; rw [← hw4]; (repeat (first | (with_reducible exact Chg.refl _ _) | (with_reducible assumption) | (with_reducible refine Chg.drewN ?_ _) | (with_reducible refine Chg.drew ?_) | (with_reducible refine Chg.alloc ?_ _) | (with_reducible refine Chg.setCell ?_ (by first | (left; simp [DevH.foot]; done) | (right; simp; done) | (right; simp; omega)) _)))
            have HO4 := Lib.hid (own_chg HO3.out HC4.out (fun _ _ h => h))
            clear hw4
            go_wp2_with (first
              | (at_builtin; go_loud (refine wpList_app _ rfl (.tmp 73) (.tmp 77) tBytes rfl tU8 Try.underlying40 ti_u8 rfl (by omega) w.heap.size _ nb _ rfl HO4.out tU8 A4 q3 _ _ rfl (HD4.out _ HC4.out) bys_one_cell (by simp only [maxLen]; omega) (by omega) (by have h1 := HC3.out.size; have h2 := HC4.out.size; omega) ?_); intro v5 w5 ho5 hg5 hb5; have HO5 := Lib.hid ho5; have HG5 := Lib.hid hg5; clear ho5 hg5 hb5))
            obtain ⟨A5, c5, rfl, hnc5, _⟩ := own_slice HO5.out
            go_roundg (p - (k + 1))
            case measure => omega
            case rel =>
              refine ⟨k + 1, A5, nb + q3, c5, b ++ cut pg 8 (8 + q3), by go_num, by omega, rfl, rfl, hnc5, by omega, ?_, HB1.out, ?_, ?_⟩
              · rw [bys_append]; exact HO5.out
              · exact (HD3.out.chgNo HC4.out).chg (Chg.grown (Chg.refl (fun i => (Value.slice Ab nb cb).ownBlock = some i) w4) HG5.out (fun k' hk' => .inl hk')) (fun hS => own_foot (HD3.out.chgNo HC4.out) HO4.out (by decide) (by decide) _ hS (.inl rfl)) (fun hS => own_foot (HD3.out.chgNo HC4.out) HO4.out (by decide) (by decide) _ hS (.inr (.inl rfl))) (fun hS => own_foot (HD3.out.chgNo HC4.out) HO4.out (by decide) (by decide) _ hS (.inr (.inr rfl))) (fun g cs T hg _ _ hS => by have h1 := own_new HO4.out _ hS; have h2 := HD.out.below; omega)
              · exact (HC3.out.then HC4.out (fun _ _ h => h.elim)).grown HG5.out (fun k' hk' => .inr (own_new HO4.out k' hk'))
        · obtain rfl : p = k := by omega
          obtain ⟨bt, hbt⟩ : ∃ bt, bt = b.length := ⟨_, rfl⟩
          have hnbl : nb ≤ 1540096 := by omega
          have HL2 : Hid (er = match loadOf b with
            | some l => (l, 0)
            | none => ([], 3)) := by show _ = _; rw [HL.out, H.out.2.1]
          clear hbt bt h0 hk
          go_wp2
          go_loopg [8, 13] (nb + 1) (fun g v8 v13 wz => ∃ (A' : Option Addr) (n' c' : Nat) (rest : List UInt8) (acc : List Item), v8 = .slice A' n' c' ∧ n' ≤ c' ∧ n' < g ∧ n' ≤ nb ∧ acc.length * 32 + n' ≤ nb ∧
            Hid (Rd wz tU8 A' n' (bys rest) ∧ wz.ownsRow w.heap.size tItem 5 v13 acc.length (its acc) ∧ DevN N wz h D ∧ Chg h.foot w wz ∧ loadOf b = (loadOf rest).map (acc ++ ·)))
          case atStart => exact ⟨Ab, nb, cb, b, [], rfl, hnc, by omega, by omega, by simp, ⟨by simpa using Rd.ofOwn H.out.1, World.ownsRow_nil _ _ _ _, H.out.2.2.1, H.out.2.2.2, by simp⟩⟩
          case round =>
            obtain ⟨A', n', c', rest, acc, rfl, hc', hg, hnn, hal, H2⟩ := hrel
            have hrl : rest.length = n' := by rw [← bys_length]; exact H2.out.1.1
            rcases Nat.eq_zero_or_pos n' with rfl | hpos
            · have hE : Hid (er = (acc, 0)) := by
                show _ = _
                rw [HL2.out, H2.out.2.2.2.2, loadOf_step, if_pos hrl]; simp
              clear hrl
              go_wp2
              go_ret2
              exact ⟨_, by rw [hE.out]; rfl, by rw [hE.out]; exact H2.out.2.1, H2.out.2.2.1, H2.out.2.2.2.1⟩
            · have hT := take_calls A' n' c' rest wr H2.out.1 (by omega) hc'
              have hpi : (0 : Int) < (n' : Int) := by omega
              cases ht : take rest with
              | none =>
                rw [ht] at hT
                simp only [Tk.item, Tk.len, Tk.err] at hT
                have HT := Lib.hid hT
                have hE : Hid (er = ([], 3)) := by
                  show _ = _
                  rw [HL2.out, H2.out.2.2.2.2, loadOf_step, if_neg (by omega), ht]; rfl
                clear ht hT hrl
                go_wp2_with fail
                refine HT.out.mono ?_
                rintro e w1 ⟨rfl, hc1⟩
                have HC1 := Lib.hid hc1
                clear hc1
                go_wp2
                go_ret2
                exact ⟨_, by rw [hE.out]; rfl, by rw [hE.out]; exact World.ownsRow_nil _ _ _ _, (H2.out.2.2.1.chgNo HC1.out).chgNo (by (repeat (first | (with_reducible exact Chg.refl _ _) | (with_reducible assumption) | (with_reducible refine Chg.drewN ?_ _) | (with_reducible refine Chg.drew ?_) | (with_reducible refine Chg.alloc ?_ _) | (with_reducible refine Chg.setCell ?_ (by first | (left; simp [DevH.foot]; done) | (right; simp; done) | (right; simp; omega)) _)))), (H2.out.2.2.2.1.then HC1.out (fun _ _ h => h.elim)).alloc _⟩
              | bad =>
                rw [ht] at hT
                simp only [Tk.item, Tk.len, Tk.err] at hT
                have HT := Lib.hid hT
                have hE : Hid (er = ([], 3)) := by
                  show _ = _
                  rw [HL2.out, H2.out.2.2.2.2, loadOf_step, if_neg (by omega), ht]; rfl
                clear ht hT hrl
                go_wp2_with fail
                refine HT.out.mono ?_
                rintro e w1 ⟨rfl, hc1⟩
                have HC1 := Lib.hid hc1
                clear hc1
                go_wp2
                go_ret2
                exact ⟨_, by rw [hE.out]; rfl, by rw [hE.out]; exact World.ownsRow_nil _ _ _ _, (H2.out.2.2.1.chgNo HC1.out).chgNo (by (repeat (first | (with_reducible exact Chg.refl _ _) | (with_reducible assumption) | (with_reducible refine Chg.drewN ?_ _) | (with_reducible refine Chg.drew ?_) | (with_reducible refine Chg.alloc ?_ _) | (with_reducible refine Chg.setCell ?_ (by first | (left; simp [DevH.foot]; done) | (right; simp; done) | (right; simp; omega)) _)))), (H2.out.2.2.2.1.then HC1.out (fun _ _ h => h.elim)).alloc _⟩
              | ok x kk =>
                rw [ht] at hT
                simp only [Tk.item, Tk.len, Tk.err] at hT
                have HT := Lib.hid hT
                have hlen := take_ok_len ht
                rw [hrl] at hlen
                obtain ⟨hk1, hk2, _, _⟩ := hlen
                obtain ⟨A2, hs2, hd2⟩ := sub_slice_l (P := Try.prog) Try.underlying40 ti_u8 A' n' c' (kk : Int) (by omega) (by omega) hc'
                simp only [Int.toNat_natCast] at hs2
                have hs2' : ∀ W : World, (Instr.sliceAt tBytes (.slice A' n' c') (some (.int .i64 kk)) none none).run Try.prog W = _ := fun W => (run_sliceAt_slice W tBytes _ _ _ _ Try.underlying40).trans (hs2 W)
                have HLS : Hid (loadOf b = (loadOf (rest.drop kk)).map ((acc ++ [x]) ++ ·)) := by
                  show _ = _
                  rw [H2.out.2.2.2.2, loadOf_step rest, if_neg (by omega), ht]
                  show Option.map _ (Option.map _ (loadOf (rest.drop kk))) = Option.map _ (loadOf (rest.drop kk))
                  generalize loadOf (rest.drop kk) = z
                  cases z <;> simp
                have HD2 := Lib.hid hd2
                clear ht hT hd2 hrl
                have hki : (kk : Int) ≤ (n' : Int) := by omega
                go_wp2_with fail
                refine HT.out.mono ?_
                rintro e w1 ⟨rfl, hc1⟩
                have HC1 := Lib.hid hc1
                have HO1 := Lib.hid (own_chg H2.out.2.1 hc1 (fun _ _ h => h))
                clear hc1
                go_wp2_with fail
                obtain ⟨ga, hga⟩ : ∃ ga, ga = w1.heap.size := ⟨_, rfl⟩
                rw [← hga]
                refine wp_forget (fun W => Chg No w1 W ∧ Blk W ga tItem #[.string x.key, .string x.val, .int .u32 x.flags.toNat, .int .i64 x.exp.toInt, .int .u64 x.ver.toNat]) ⟨by (repeat (first | (with_reducible exact Chg.refl _ _) | (with_reducible assumption) | (with_reducible refine Chg.drewN ?_ _) | (with_reducible refine Chg.drew ?_) | (with_reducible refine Chg.alloc ?_ _) | (with_reducible refine Chg.setCell ?_ (by first | (left; simp [DevH.foot]; done) | (right; simp; done) | (right; simp; omega)) _))), by rw [hga]; exact Blk.new _ _ _⟩ (fun W hW => ?_)
                obtain ⟨hcW, hbW⟩ := hW
                have HCW := Lib.hid hcW
                have HBW := Lib.hid hbW
                have HOW := Lib.hid (own_chg HO1.out hcW (fun _ _ h => h))
                have HGA : Hid (ga = w1.heap.size) := hga
                have a0 := hbW.cell 0
                have a1 := hbW.cell 1
                have a2 := hbW.cell 2
                have a3 := hbW.cell 3
                have a4 := hbW.cell 4
                simp at a0 a1 a2 a3 a4
                have hws : w.heap.size ≤ W.heap.size := by have h1 := H2.out.2.2.2.1.size; have h2 := HC1.out.size; have h3 := hcW.size; omega
                clear hcW hbW hga
                go_region_held3 (fun w' => w'.cell? ⟨ga, 0, none⟩ = some (.string x.key) ∧ w'.cell? ⟨ga, 1, none⟩ = some (.string x.val) ∧ w'.cell? ⟨ga, 2, none⟩ = some (.int .u32 x.flags.toNat) ∧ w'.cell? ⟨ga, 3, none⟩ = some (.int .i64 x.exp.toInt) ∧ w'.cell? ⟨ga, 4, none⟩ = some (.int .u64 x.ver.toNat)) (first | go_keep)
                  ((first
                    | (go_loud (refine step_app _ (by rfl) (.tmp 91) (.tmp 93) tItems (by rfl) tItem Try.underlying33 ti_item rfl (by omega) w.heap.size _ acc.length _ (by rfl) (by first | exact HOW.out.alloc _ | exact HOW.out) tItem _ 1 1 (itc x) (by rfl) (by first | exact rd_item _ x | exact Rd.drew (rd_item _ x)) (itc_one_cell x) (by simp only [maxLen]; omega) (by omega) (by simp; omega) ?_)
                       intro v9 w9 ho9 hg9 hb9
                       have HO9 := Lib.hid ho9
                       have HG9 : Hid (Chg (fun i => Value.ownBlock _ = some i) W w9) := Chg.grown (by (repeat (first | (with_reducible exact Chg.refl _ _) | (with_reducible assumption) | (with_reducible refine Chg.drewN ?_ _) | (with_reducible refine Chg.drew ?_) | (with_reducible refine Chg.alloc ?_ _) | (with_reducible refine Chg.setCell ?_ (by first | (left; simp [DevH.foot]; done) | (right; simp; done) | (right; simp; omega)) _)))) hg9 (fun k' hk' => .inl hk')
                       clear ho9 hg9 hb9
                       have hbl := HBW.out.chg HG9.out (fun hS => by have h1 := (HO1.out.lt _ hS).2; have h2 := HGA.out; omega)
                       have e0 := hbl.cell 0
                       have e1 := hbl.cell 1
                       have e2 := hbl.cell 2
                       have e3 := hbl.cell 3
                       have e4 := hbl.cell 4
                       clear hbl
                       simp at e0 e1 e2 e3 e4)))
                go_wp2
                go_roundg (n' - kk + 1)
                case measure => omega
                case rel =>
                  have hc1W : Chg No wr W := HC1.out.trans HCW.out
                  have hdW := H2.out.2.2.1.chgNo hc1W
                  refine ⟨A2, n' - kk, c' - kk, rest.drop kk, acc ++ [x], rfl, by omega, by omega, by omega, by rw [List.length_append]; simp only [List.length_cons, List.length_nil]; omega, ?_, ?_, ?_, ?_, HLS.out⟩
                  · have hr2 := HD2.out W tU8 (bys rest) (by simpa using H2.out.1.below hc1W.toBelow)
                    have hr3 : Rd W tU8 A2 (n' - kk) (bys (rest.drop kk)) := by simpa [bys_drop] using hr2
                    refine hr3.chg HG9.out ?_
                    intro g cur fz hgb hk'
                    exact own_other HOW.out hgb (by decide) hk'
                  · have := HO9.out
                    rw [its_append, its_one]
                    simpa using this
                  · exact hdW.chg HG9.out (fun hS => own_foot hdW HOW.out (by decide) (by decide) _ hS (.inl rfl)) (fun hS => own_foot hdW HOW.out (by decide) (by decide) _ hS (.inr (.inl rfl))) (fun hS => own_foot hdW HOW.out (by decide) (by decide) _ hS (.inr (.inr rfl))) (fun g cs T hg _ _ hS => by have h1 := own_new HOW.out _ hS; have h2 := HD.out.below; omega)
                  · exact (H2.out.2.2.2.1.then hc1W (fun _ _ h => h.elim)).then HG9.out (fun i hi hS => by have := own_new HOW.out _ hS; omega)
end Go.Proofs.Ytinofdfjaopdcaa
