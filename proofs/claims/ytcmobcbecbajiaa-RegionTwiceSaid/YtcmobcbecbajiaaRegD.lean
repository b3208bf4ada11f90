/- The stable sort of regions by their numbers, walked (less than 20 of them). -/
import Derived.Test.YtcmobcbecbajiaaRegC
import Derived.Deep.LoopGhost
import Derived.Deep.DrawnRows
import Derived.Deep.RegionHeld3
import Derived.RegionTactic
import Derived.ChangeAlike
import Derived.Laws.OwnMore
namespace Go.Proofs.Ytcmobcbecbajiaa
open Go.RowKit
attribute [local go_sem ↓] Go.wp_at_zero Go.wp_at_succ
set_option linter.unusedSimpArgs false
set_option linter.unusedVariables false

abbrev tInt1 : TypeId := 3
abbrev tInts1 : TypeId := 113
def ints (l : List Nat) : List Value := l.map fun x : Nat => .int .i64 (x : Int)
theorem ints_length (l : List Nat) : (ints l).length = l.length := by simp [ints]
theorem ints_append (a b : List Nat) : ints (a ++ b) = ints a ++ ints b := by simp [ints]
theorem ints_get {l : List Nat} {i x : Nat} (h : l[i]? = some x) : (ints l)[i]? = some (.int .i64 (x : Int)) := by simp [ints, h]

theorem ints_set (l : List Nat) (i x : Nat) : ints (l.set i x) = (ints l).set i (.int .i64 (x : Int)) := by simp [ints, List.map_set]

/-- the row at an inner round's head: rest's reverse, x, what was moved, what is to come -/
def midRow (rest : List Nat) (x : Nat) (moved tail : List Nat) : List Nat := rest.reverse ++ x :: (moved.reverse ++ tail)
theorem insR_moved (f : Nat → Nat) (x : Nat) (moved rest : List Nat) (h : ∀ y ∈ moved, f x < f y) : insR f x (moved ++ rest) = moved ++ insR f x rest := by
  induction moved with
  | nil => rfl
  | cons y r ih =>
    rw [List.cons_append, insR, if_pos (h y List.mem_cons_self), ih (fun z hz => h z (List.mem_cons_of_mem _ hz))]; rfl
theorem mid_swap (rest : List Nat) (y x : Nat) (moved tail : List Nat) : ((midRow (y :: rest) x moved tail).set (rest.length + 1) y).set rest.length x = midRow rest x (moved ++ [y]) tail := by
  unfold midRow
  rw [List.reverse_cons, List.append_assoc]
  have e1 : rest.length + 1 = rest.reverse.length + 1 := by simp
  rw [e1, List.set_append_right _ _ (by omega), Nat.add_sub_cancel_left]
  rw [List.set_append_right _ _ (by simp)]
  simp
theorem cmpN_lt (a b : Nat) : cmpN a b < 0 ↔ a < b := by
  unfold cmpN
  split
  · simp; assumption
  · split <;> simp <;> omega

theorem row_get {w : World} {base e g cap n : Nat} {xs : List Value} (h : w.ownsRow base e 1 (.slice (some ⟨g, 0, none⟩) n cap) n xs) {j : Nat} {u : Value} (hu : xs[j]? = some u) : w.cell? ⟨g, j, none⟩ = some u := by
  obtain ⟨A, c, hA, _, hr⟩ := own_slice h
  injection hA with e1 e2 e3
  subst e1
  have := h.1
  obtain ⟨g', off, e4, _, hx⟩ := hr.at_ (j := j) (by have := (List.getElem?_eq_some_iff.1 hu).1; omega)
  simp only [Option.some.injEq, Addr.mk.injEq, and_true] at e4
  obtain ⟨rfl, rfl⟩ := e4
  simpa using hx j u hu

def insL (f : Nat → Nat) (l : List Nat) : List Nat := l.foldl (fun r x => insR f x r) []
theorem insL_snoc (f : Nat → Nat) (l : List Nat) (x : Nat) : insL f (l ++ [x]) = insR f x (insL f l) := by simp [insL, List.foldl_append]
theorem insR_length (f : Nat → Nat) (x : Nat) (l : List Nat) : (insR f x l).length = l.length + 1 := by
  induction l with
  | nil => rfl
  | cons y r ih => rw [insR]; split <;> simp [ih]
theorem insR_mem (f : Nat → Nat) (x z : Nat) (l : List Nat) : z ∈ insR f x l ↔ z = x ∨ z ∈ l := by
  induction l with
  | nil => simp [insR]
  | cons y r ih =>
    rw [insR]
    split
    · rw [List.mem_cons, ih, List.mem_cons]
      exact ⟨fun h => by rcases h with h | h | h <;> simp [h], fun h => by rcases h with h | h | h <;> simp [h]⟩
    · rw [List.mem_cons]
theorem insL_length (f : Nat → Nat) (l : List Nat) : (insL f l).length = l.length := by
  rw [← List.reverse_reverse l]
  generalize l.reverse = m
  induction m with
  | nil => rfl
  | cons x r ih => rw [List.reverse_cons, insL_snoc, insR_length, ih]; simp
theorem insL_mem (f : Nat → Nat) (z : Nat) (l : List Nat) : z ∈ insL f l ↔ z ∈ l := by
  rw [← List.reverse_reverse l]
  generalize l.reverse = m
  induction m with
  | nil => simp [insL]
  | cons x r ih => rw [List.reverse_cons, insL_snoc, insR_mem, ih, List.mem_append, List.mem_singleton]; exact ⟨fun h => h.symm, fun h => h.symm⟩

theorem insertion_small {w : World} (v F : Value) (n : Nat) (hn : n ≤ 1) :
    Calls Try.prog 108 #[v, .int .i64 0, .int .i64 n, F] w fun e w' => e = .returned (.tuple #[]) ∧ w = w' := by
  have h1 : ¬ (1 : Int) < (n : Int) := by omega
  clear hn
  go_enter Try.func108, Try.ntmps108
  go_wp2
  go_loopg [8] 0 (fun gk vi wr => vi = .int .i64 1 ∧ w = wr)
  case atStart => exact ⟨rfl, rfl⟩
  case round =>
    obtain ⟨rfl, rfl⟩ := hrel
    go_wp2
    go_end0
    exact ⟨rfl, rfl⟩

set_option maxHeartbeats 2000000 in
/-- data[0..n) is put in order -/
theorem insertion_calls {w : World} {h : DevH} {t : LgH} {G : Lg} (hl : LgAt w h t G) (B : Nat) (hB : Blk w B 48 #[.pointer (some ⟨t.L, 0, none⟩)]) (g cap base : Nat) (l : List Nat)
    (hown : w.ownsRow base tInt1 1 (.slice (some ⟨g, 0, none⟩) l.length cap) l.length (ints l)) (hgo : ¬ t.own g) (hlt : ∀ x ∈ l, x < G.regs.length) (hn : l.length ≤ 64) (h2 : 2 ≤ l.length) :
    Calls Try.prog 108 #[.slice (some ⟨g, 0, none⟩) l.length cap, .int .i64 0, .int .i64 l.length, .func (.func 94) #[] #[.pointer (some ⟨B, 0, none⟩)]] w
      fun e w' => e = .returned (.tuple #[]) ∧ w'.ownsRow base tInt1 1 (.slice (some ⟨g, 0, none⟩) l.length cap) l.length (ints (sortR (rnum G.regs) l)) ∧ Chg (fun k => k = g) w w' := by
  have hgB : B ≠ g := by
    rintro rfl
    exact own_other hown hB (by decide) (by simp [Value.ownBlock])
  have HC : ∀ W, Hid (Chg (fun k => k = g) w W → ∀ a b : Nat, a < G.regs.length → b < G.regs.length → Calls Try.prog 94 #[.int .i64 a, .int .i64 b, .pointer (some ⟨B, 0, none⟩)] W fun e w' => e = .returned (.int .i64 (cmpN (rnum G.regs a) (rnum G.regs b))) ∧ ∃ n, w' = W.drewN n) := fun W hc a b ha hb =>
    byCmp_calls (hl.chg hc (fun k hk e => hgo (by rw [← e]; exact hk))) B (hB.chg hc hgB) a b ha hb
  have HLT := Lib.hid hlt
  have HO := Lib.hid hown
  obtain ⟨f, hf⟩ : ∃ f, f = rnum G.regs := ⟨_, rfl⟩
  obtain ⟨nr, hnr⟩ : ∃ nr, nr = G.regs.length := ⟨_, rfl⟩
  simp only [← hf, ← hnr] at HC HLT ⊢
  obtain ⟨n, hnl⟩ : ∃ n, n = l.length := ⟨_, rfl⟩
  have HN : Hid (l.length = n) := hnl.symm
  rw [← hnl] at HO hn h2 ⊢
  clear hl hB hown hlt hgo hgB hf hnr hnl
  go_enter Try.func108, Try.ntmps108
  go_wp2
  go_loopg [8] n (fun gk vi wr => ∃ i : Nat, gk = n - i ∧ i + 1 ≤ n ∧ vi = .int .i64 ((i + 1 : Nat) : Int) ∧ Hid (wr.ownsRow base tInt1 1 (.slice (some ⟨g, 0, none⟩) n cap) n (ints ((insL f (l.take (i + 1))).reverse ++ l.drop (i + 1))) ∧ Chg (fun k => k = g) w wr))
  case atStart =>
    refine ⟨0, rfl, by omega, rfl, ?_, Chg.refl _ _⟩
    have e : (insL f (l.take (0 + 1))).reverse ++ l.drop (0 + 1) = l := by
      cases l with
      | nil => rfl
      | cons x r => simp [insL, insR]
    rw [e]; exact HO.out
  case round =>
    obtain ⟨i, rfl, hi, rfl, H⟩ := hrel
    by_cases hlast : i + 1 < n
    · obtain ⟨wo, rfl⟩ : ∃ wo : World, wo = wr := ⟨_, rfl⟩
      obtain ⟨x, hx⟩ : ∃ x, l[i + 1]? = some x := ⟨_, List.getElem?_eq_getElem (by rw [HN.out]; exact hlast)⟩
      have hxr : x < nr := HLT.out x (List.mem_of_getElem? hx)
      have hdrop : l.drop (i + 1) = x :: l.drop (i + 2) := by
        rw [List.drop_eq_getElem_cons (by rw [HN.out]; exact hlast)]
        congr 1
        exact (List.getElem?_eq_some_iff.1 hx).2
      have HR : Hid (wo.ownsRow base tInt1 1 (.slice (some ⟨g, 0, none⟩) n cap) n (ints (midRow (insL f (l.take (i + 1))) x [] (l.drop (i + 2)))) ∧ Chg (fun k => k = g) w wo) := by
        refine ⟨?_, H.out.2⟩
        have := H.out.1
        rw [hdrop] at this
        exact this
      have HE : Hid (insL f (l.take (i + 1 + 1)) = insR f x (insL f (l.take (i + 1)))) := by
        show _ = _
        rw [List.take_add_one (i := i + 1), hx, Option.toList, insL_snoc]
      have HL : Hid ((insL f (l.take (i + 1))).length = i + 1) := by
        show _ = _
        rw [insL_length, List.length_take, HN.out]; omega
      have HM : Hid (∀ y ∈ insL f (l.take (i + 1)), y < nr) := fun y hy => HLT.out y (List.mem_of_mem_take ((insL_mem f y _).1 hy))
      have hli : ((i + 1 : Nat) : Int) < (n : Int) := by omega
      clear H hx hdrop
      go_wp2
      go_loopg [9] (i + 1) (fun gj vj wz => ∃ rest moved : List Nat, gj = rest.length ∧ rest.length ≤ i + 1 ∧ vj = .int .i64 (rest.length : Int) ∧ Hid (wz.ownsRow base tInt1 1 (.slice (some ⟨g, 0, none⟩) n cap) n (ints (midRow rest x moved (l.drop (i + 2)))) ∧ Chg (fun k => k = g) w wz ∧ insR f x (insL f (l.take (i + 1))) = moved ++ insR f x rest ∧ ∀ y ∈ rest, y < nr))
      case atStart => exact ⟨insL f (l.take (i + 1)), [], HL.out.symm, by rw [HL.out]; exact Nat.le_refl _, by rw [HL.out], HR.out.1, HR.out.2, rfl, HM.out⟩
      case round =>
        obtain ⟨rest, moved, rfl, hrl, rfl, K⟩ := hrel
        cases rest with
        | nil =>
          have HEND : Hid (wr.ownsRow base tInt1 1 (.slice (some ⟨g, 0, none⟩) n cap) n (ints ((insL f (l.take (i + 1 + 1))).reverse ++ l.drop (i + 1 + 1))) ∧ Chg (fun k => k = g) w wr) := by
            refine ⟨?_, K.out.2.1⟩
            have h1 := K.out.1
            have h2 := K.out.2.2.1
            rw [HE.out, h2]
            simpa [midRow, insR] using h1
          have b0 : decide ((0 : Int) < 0) = false := rfl
          simp only [List.length_nil]
          go_wp2_with fail
          go_quiet (fail)
          go_wp2
          go_roundg (n - (i + 1))
          case measure => omega
          case rel => exact ⟨i + 1, rfl, by omega, by go_num, HEND.out.1, HEND.out.2.drewN _⟩
        | cons y r =>
          have hyr : y < nr := K.out.2.2.2 y List.mem_cons_self
          have hrr : r.length + 1 ≤ i + 1 := by simpa using hrl
          have HLM : Hid ((midRow (y :: r) x moved (l.drop (i + 2)))[r.length]? = some y ∧ (midRow (y :: r) x moved (l.drop (i + 2)))[r.length + 1]? = some x) := by
            unfold midRow
            rw [List.reverse_cons, List.append_assoc]
            constructor
            · rw [List.getElem?_append_right (by simp)]; simp
            · rw [List.getElem?_append_right (by simp)]; simp
          have cy := row_get K.out.1 (ints_get HLM.out.1)
          have cx := row_get K.out.1 (ints_get HLM.out.2)
          have HC1 := fun W => Lib.hid (fun hc : Chg (fun k => k = g) w W => (HC W).out hc x y hxr hyr)
          have hcl := cmpN_lt (f x) (f y)
          obtain ⟨cc, hcc⟩ : ∃ cc, cc = cmpN (f x) (f y) := ⟨_, rfl⟩
          rw [← hcc] at HC1 hcl
          obtain ⟨m, hm⟩ : ∃ m, r.length = m := ⟨_, rfl⟩
          rw [List.length_cons, hm]
          rw [hm] at cy cx hrr
          have hmi : (m : Int) < (n : Int) := by omega
          have hmi1 : ((m + 1 : Nat) : Int) < (n : Int) := by omega
          have hsub : IntKind.i64.wrap (((m + 1 : Nat) : Int) - 1) = (m : Int) := by rw [IntWalk.i64_in _ (by omega)]; omega
          have b0 : decide ((0 : Int) < ((m + 1 : Nat) : Int)) = true := by simp only [decide_eq_true_eq]; omega
          have HMM := Lib.hid hm
          have HCL := Lib.hid hcl
          clear HLM hcc hm hcl
          by_cases hlt : f x < f y
          · have hc0 : decide (cc < 0) = true := by simpa using HCL.out.2 hlt
            go_wp2_with fail
            go_quiet ((go_at_call 94; exact (Calls.quiet_of ((HC1 _).out (K.out.2.1.drewN _)))))
            have fm := K.out.1.frozenAt m
            have fm1 := K.out.1.frozenAt (m + 1)
            go_wp2_with fail
            go_region
            all_goals
              go_wp2
              go_roundg m
              case measure => have := HMM.out; simp only [List.length_cons]; omega
              case rel =>
                refine ⟨r, moved ++ [y], HMM.out.symm, by rw [HMM.out]; omega, by rw [HMM.out], ?_, ?_, ?_, ?_⟩
                · have e := mid_swap r y x moved (l.drop (i + 2))
                  rw [HMM.out] at e
                  rw [← e, ints_set, ints_set]
                  exact (((own_chg K.out.1 ((Chg.refl No wr).drewN _) (fun _ _ h => h)).stored (m + 1) (.int .i64 (y : Int))).1.stored m (.int .i64 (x : Int))).1
                · exact ((K.out.2.1.drewN _).setCell (.inl rfl) _).setCell (.inl rfl) _
                · rw [K.out.2.2.1, insR, if_pos hlt, List.append_assoc]; rfl
                · exact fun z hz => K.out.2.2.2 z (List.mem_cons_of_mem _ hz)
          · have hc0 : decide (cc < 0) = false := decide_eq_false (fun h => hlt (HCL.out.1 h))
            have HEND : Hid (wr.ownsRow base tInt1 1 (.slice (some ⟨g, 0, none⟩) n cap) n (ints ((insL f (l.take (i + 1 + 1))).reverse ++ l.drop (i + 1 + 1))) ∧ Chg (fun k => k = g) w wr) := by
              refine ⟨?_, K.out.2.1⟩
              have h1 := K.out.1
              have h2 := K.out.2.2.1
              rw [HE.out, h2, insR, if_neg hlt]
              simpa [midRow] using h1
            go_wp2_with fail
            go_quiet ((go_at_call 94; exact (Calls.quiet_of ((HC1 _).out (K.out.2.1.drewN _)))))
            go_wp2
            go_roundg (n - (i + 1))
            case measure => omega
            case rel => exact ⟨i + 1, rfl, by omega, by go_num, HEND.out.1, HEND.out.2.drewN _⟩
    · obtain rfl : n = i + 1 := by omega
      have HEND : Hid (wr.ownsRow base tInt1 1 (.slice (some ⟨g, 0, none⟩) (i + 1) cap) (i + 1) (ints (sortR f l)) ∧ Chg (fun k => k = g) w wr) := by
        refine ⟨?_, H.out.2⟩
        have := H.out.1
        rw [List.take_of_length_le (by rw [HN.out]; exact Nat.le_refl _), List.drop_of_length_le (by rw [HN.out]; exact Nat.le_refl _), List.append_nil] at this
        exact this
      clear hlast
      go_wp2
      go_end0
      exact ⟨rfl, HEND.out⟩

/-- stableCmpFunc over less than 20 -/
theorem stable_calls {w : World} {h : DevH} {t : LgH} {G : Lg} (hl : LgAt w h t G) (B : Nat) (hB : Blk w B 48 #[.pointer (some ⟨t.L, 0, none⟩)]) (base : Nat) (v : Value) (l : List Nat)
    (hown : w.ownsRow base tInt1 1 v l.length (ints l)) (hgo : ∀ k, v.ownBlock = some k → ¬ t.own k) (hlt : ∀ x ∈ l, x < G.regs.length) (hn : l.length < 20) :
    Calls Try.prog 93 #[v, .func (.func 94) #[] #[.pointer (some ⟨B, 0, none⟩)]] w
      fun e w' => e = .returned (.tuple #[]) ∧ w'.ownsRow base tInt1 1 v l.length (ints (sortR (rnum G.regs) l)) ∧ Chg (rowOf v) w w' := by
  have HI : Hid (∀ (A : Option Addr) (c : Nat), v = .slice A l.length c → Calls Try.prog 108 #[.slice A l.length c, .int .i64 0, .int .i64 l.length, .func (.func 94) #[] #[.pointer (some ⟨B, 0, none⟩)]] w
      fun e w' => e = .returned (.tuple #[]) ∧ w'.ownsRow base tInt1 1 v l.length (ints (sortR (rnum G.regs) l)) ∧ Chg (rowOf v) w w') := by
    intro A c hv
    by_cases h2 : 2 ≤ l.length
    · rcases hown.2 with ⟨h0, h1⟩ | ⟨g, cap, cur, h0, _⟩
      · have := hown.1; rw [h1] at this; simp [ints] at this; omega
      · subst hv
        injection h0 with e1 e2 e3
        subst e1
        refine (insertion_calls hl B hB g c base l hown (hgo g (by simp [Value.ownBlock])) hlt (by omega) h2).mono ?_
        rintro e w' ⟨he, ho, hc⟩
        exact ⟨he, ho, hc.mono (fun k _ hk => by unfold rowOf; rw [hk]; simp [Value.ownBlock])⟩
    · refine (insertion_small (w := w) _ _ l.length (by omega)).mono ?_
      rintro e w' ⟨he, rfl⟩
      refine ⟨he, ?_, Chg.refl _ _⟩
      have : sortR (rnum G.regs) l = l := by
        match l, h2 with
        | [], _ => rfl
        | [x], _ => rfl
        | _ :: _ :: _, h2 => simp at h2
      rw [this]; exact hown
  obtain ⟨A, c, hv, hnc, _⟩ := own_slice hown
  have hI := HI.out A c hv
  have HI2 := Lib.hid hI
  have HV := Lib.hid hv
  obtain ⟨n, hnl⟩ : ∃ n, n = l.length := ⟨_, rfl⟩
  rw [← hnl] at HI2 HV hn ⊢
  obtain rfl := HV.out
  have h20 : ¬ (20 : Int) ≤ (n : Int) := by omega
  have h20' : ¬ (20 : Int) < (n : Int) := by omega
  clear hl hB hown hgo hlt HI hv hI HV hnl hnc
  have HS : Hid (Calls Try.prog 103 #[.slice A n c, .int .i64 n, .func (.func 94) #[] #[.pointer (some ⟨B, 0, none⟩)]] w
      fun e w' => e = .returned (.tuple #[]) ∧ w'.ownsRow base tInt1 1 (.slice A n c) n (ints (sortR (rnum G.regs) l)) ∧ Chg (rowOf (.slice A n c)) w w') := by
    go_enter Try.func103, Try.ntmps103
    go_wp2
    go_loopg [7, 8] 0 (fun gk va vb wr => va = .int .i64 0 ∧ vb = .int .i64 20 ∧ w = wr)
    case atStart => exact ⟨rfl, rfl, rfl⟩
    case round =>
      obtain ⟨rfl, rfl, rfl⟩ := hrel
      go_wp2_with fail
      refine HI2.out.mono ?_
      rintro e w1 ⟨rfl, ho1, hc1⟩
      have HO1 := Lib.hid (And.intro ho1 hc1)
      clear ho1 hc1
      go_wp2
      go_loopg [6] 0 (fun gk va wr => va = .int .i64 20 ∧ w1 = wr)
      case atStart => exact ⟨rfl, rfl⟩
      case round =>
        obtain ⟨rfl, rfl⟩ := hrel
        go_wp2
        go_end0
        exact ⟨rfl, HO1.out⟩
  clear HI2
  go_enter Try.func93, Try.ntmps93
  go_wp2_with fail
  refine HS.out.mono ?_
  rintro e w1 ⟨rfl, ho1, hc1⟩
  have HO1 := Lib.hid (And.intro ho1 hc1)
  clear ho1 hc1
  go_wp2
  go_end0
  exact ⟨rfl, HO1.out⟩
end Go.Proofs.Ytcmobcbecbajiaa
