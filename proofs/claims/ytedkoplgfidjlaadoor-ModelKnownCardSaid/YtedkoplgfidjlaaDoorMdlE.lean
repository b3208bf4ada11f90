/- words.Number, words.Text; the model's arith, walked. -/
import Derived.Test.YtedkoplgfidjlaaDoorMdlC
import Derived.Test.YtedkoplgfidjlaaDoorMdlD
import Derived.Lib.ItoaMem
import Derived.Lib.ItoaLen
import Derived.Lib.SmallJoins
import Derived.Lib.ParseIntBCases
namespace Go.Proofs.YtedkoplgfidjlaaDoor
open Go.RowKit Go.Sort
attribute [local go_sem ↓] Go.wp_at_zero Go.wp_at_succ
set_option linter.unusedSimpArgs false
set_option linter.unusedVariables false

abbrev encU : UInt8 → Value := fun b => .int .u8 (b.toNat : Int)
theorem Chg.putRow {S : Nat → Prop} {w w' : World} (h : Chg S w w') (g off : Nat) (hg : w.heap.size ≤ g) (d : Array UInt8) : Chg S w (putRow encU w' g off d) :=
  ⟨h.os, h.tape, h.output, by rw [size_putRow]; exact h.size, fun k hk hs => by
    rw [← h.block k hk hs]
    unfold Go.Sort.putRow mapBlock
    simp only [Array.getElem?_modify]
    rw [if_neg (by omega)]⟩
def NumR (e : Ending) : Prop := ∃ (n : Nat) (ok : Bool), n < 18446744073709551616 ∧ e = .returned (.tuple #[.int .u64 n, .bool ok])
def ParR (e : Ending) : Prop := (∃ u : Nat, u < 18446744073709551616 ∧ e = .returned (.tuple #[.int .u64 u, .nilIface])) ∨ ∃ (u N : Nat), u < 18446744073709551616 ∧ e = .returned (.tuple #[.int .u64 u, .iface 135 (.pointer (some ⟨N, 0, none⟩))])
def TxtR (e : Ending) : Prop := ∃ t : ByteArray, t.size ≤ 24 ∧ e = .returned (.string t)
theorem small_txt (i : Nat) (h : i < 100) : ((⟨(Lib.decDigits i).toArray⟩ : ByteArray)).size ≤ 24 := by
  show (Lib.decDigits i).toArray.size ≤ 24
  rw [List.size_toArray, Lib.decDigits_length]
  have := Lib.nDigits_le20 i (by omega)
  omega
set_option maxRecDepth 100000 in
set_option maxHeartbeats 1000000 in
theorem fmtu_calls {w : World} (hg : Glob w) (n : Nat) (hn : n < 18446744073709551616) :
    Calls Tryd.prog 56 #[.int .u64 n, .int .i64 10] w fun e w' => TxtR e ∧ Chg No w w' := by
  by_cases hs : n < 100
  · have hsi : (n : Int) < 100 := by omega
    have HS := Lib.hid (Tryd.internal_strconv_small n hs w)
    have hw64 : IntKind.i64.wrap (n : Int) = (n : Int) := IntWalk.i64_in _ (by omega)
    have HT := Lib.hid (small_txt n hs)
    clear hg hs
    go_enter Tryd.func56, Tryd.ntmps56
    go_wp2_with fail
    refine HS.out.mono ?_
    rintro e w1 ⟨rfl, rfl⟩
    go_wp2_with fail
    go_ret
    exact ⟨⟨_, HT.out, rfl⟩, Chg.refl _ _⟩
  · have hsi : ¬ (n : Int) < 100 := by omega
    have HN := fun W => Lib.hid (fun hc : Chg No w W => Tryd.internal_strconv_numDigits n (by omega) hn W (hg.chgNo hc).pow)
    have hd := Lib.nDigits_le20 n hn
    have hlt := Lib.lt_pow_nDigits n
    obtain ⟨d, hdd⟩ : ∃ d, d = Lib.nDigits n := ⟨_, rfl⟩
    simp only [← hdd] at HN hd hlt
    have HLT := Lib.hid hlt
    clear hg hs hdd hlt
    go_enter Tryd.func56, Tryd.ntmps56
    go_wp2_with fail
    refine ((HN _).out ((Chg.refl No w).alloc _)).mono ?_
    rintro e w1 ⟨rfl, rfl⟩
    have hdi : (d : Int) ≤ 24 := by omega
    have hd0 : (0 : Int) ≤ (d : Int) := by omega
    go_wp2_with fail
    obtain ⟨w1, hw1⟩ : ∃ w1 : World, w1 = w.alloc (.cells #[.int .u8 0, .int .u8 0, .int .u8 0, .int .u8 0, .int .u8 0, .int .u8 0, .int .u8 0, .int .u8 0, .int .u8 0, .int .u8 0, .int .u8 0, .int .u8 0, .int .u8 0, .int .u8 0, .int .u8 0, .int .u8 0, .int .u8 0, .int .u8 0, .int .u8 0, .int .u8 0, .int .u8 0, .int .u8 0, .int .u8 0, .int .u8 0] 139) := ⟨_, rfl⟩
    have hb1 : Blk w1 w.heap.size 139 (Array.replicate 24 (.int .u8 0)) := by rw [hw1]; exact Blk.new w _ _
    have HC1 : Hid (Chg No w w1) := by show Chg No w w1; rw [hw1]; exact (Chg.refl No w).alloc _
    rw [← hw1]
    clear hw1 HN
    have hsz : (Array.replicate d (0 : UInt8)).size = d := by simp
    have hH : Holds encU w1 w.heap.size 0 (Array.replicate d (0 : UInt8)) := by
      intro j hj
      rw [hsz] at hj
      rw [Nat.zero_add]
      refine ⟨?_, hb1.frozen j⟩
      rw [hb1.cell j]
      rw [getElem!_pos _ j (by simpa using hj)]
      simp [Array.getElem?_replicate]
      omega
    have HF := Lib.hid (Tryd.internal_strconv_formatBase10 w.heap.size 0 24 n (Array.replicate d (0 : UInt8)) w1 hH (by rw [hsz]; exact HLT.out) hn (by rw [hsz]; omega))
    rw [hsz] at HF
    have hlt1 := hb1.lt
    refine HF.out.mono ?_
    rintro e w2 ⟨rfl, m, v', dk, rfl, hinv⟩
    have hdk : dk.size = d := hinv.size
    have hH2 := holds_putRow encU w1 w.heap.size 0 _ dk hH (by rw [hdk, hsz])
    have hcv : ∀ W : World, W = (putRow encU w1 w.heap.size 0 dk).drewN m → (convert 134 9 (.slice (some ⟨w.heap.size, 0, none⟩) d 24)).run Tryd.prog W = .ok (.string ⟨dk.toList.toArray⟩) W := fun W hW => by
      have e : d = dk.toList.length := by simp [hdk]
      rw [e]
      refine run_convert_bytes_back W 134 9 5 ⟨w.heap.size, 0, none⟩ 24 dk.toList Tryd.underlying134 Tryd.underlying5 Tryd.underlying9 (fun j hj => ?_)
      rw [hW]
      have h9 := (hH2 j (by simpa using hj)).1
      rw [add_at]
      show (putRow encU w1 w.heap.size 0 dk).cell? _ = _
      rw [h9, getElem!_pos dk j (by simpa using hj)]
      simp
    have HSZ : Hid (dk.size ≤ 24) := by show dk.size ≤ 24; omega
    have HC2 : Hid (Chg No w ((putRow encU w1 w.heap.size 0 dk).drewN m)) := (HC1.out.putRow _ _ (Nat.le_refl _) _).drewN _
    obtain ⟨w2, hw2⟩ : ∃ w2, w2 = (putRow encU w1 w.heap.size 0 dk).drewN m := ⟨_, rfl⟩
    have hcv2 := hcv w2 hw2
    rw [show (putRow (fun (b : UInt8) => Value.int .u8 (b.toNat : Int)) w1 w.heap.size 0 dk).drewN m = w2 from hw2.symm]
    rw [← hw2] at HC2
    clear hcv hH2 hH hinv hdk hw2 HF hb1
    go_wp2_with fail
    go_ret
    exact ⟨⟨⟨dk⟩, HSZ.out, rfl⟩, HC2.out⟩
theorem text_calls {w : World} (hg : Glob w) (n : Nat) (hn : n < 18446744073709551616) :
    Calls Tryd.prog 40 #[.int .u64 n] w fun e w' => TxtR e ∧ Chg No w w' := by
  have HF := Lib.hid (fmtu_calls hg n hn)
  clear hg hn
  have HG : Hid (Calls Tryd.prog 49 #[.int .u64 n, .int .i64 10] w fun e w' => TxtR e ∧ Chg No w w') := by
    show Calls _ _ _ _ _
    go_enter Tryd.func49, Tryd.ntmps49
    go_wp2_with fail
    refine HF.out.mono ?_
    rintro e w1 ⟨⟨t, ht, rfl⟩, hc⟩
    have HR := Lib.hid (And.intro ht hc)
    clear ht hc
    go_wp2_with fail
    go_ret
    exact ⟨⟨t, HR.out.1, rfl⟩, HR.out.2⟩
  go_enter Tryd.func40, Tryd.ntmps40
  go_wp2_with fail
  refine HG.out.mono ?_
  rintro e w1 ⟨⟨t, ht, rfl⟩, hc⟩
  have HR := Lib.hid (And.intro ht hc)
  clear ht hc
  go_wp2_with fail
  go_ret
  exact ⟨⟨t, HR.out.1, rfl⟩, HR.out.2⟩
/-- words.Number -/
theorem number_calls {w : World} (hg : Glob w) (s : ByteArray) :
    Calls Tryd.prog 39 #[.string s] w fun e w' => NumR e ∧ Chg No w w' := by
  by_cases h0 : s.size < 1
  · have h0i : (s.size : Int) < 1 := by omega
    go_enter Tryd.func39, Tryd.ntmps39
    go_wp2_with fail
    go_ret2
    exact ⟨⟨0, false, by decide, rfl⟩, Chg.refl _ _⟩
  have h0i : ¬ (s.size : Int) < 1 := by omega
  by_cases h1 : 20 < s.size
  · have h1i : (20 : Int) < (s.size : Int) := by omega
    go_enter Tryd.func39, Tryd.ntmps39
    go_wp2_with fail
    go_ret2
    exact ⟨⟨0, false, by decide, rfl⟩, Chg.refl _ _⟩
  have h1i : ¬ (20 : Int) < (s.size : Int) := by omega
  have HU : ∀ W, Hid (Chg No w W → Calls Tryd.prog 48 #[.string s, .int .i64 10, .int .i64 64] W fun e w' => ParR e ∧ Chg No W w') := by
    intro W hc
    have hW := hg.chgNo hc
    by_cases hp1 : ∃ u, Lib.parseUintB 64 s.data.toList = .ok u
    · obtain ⟨u, hp⟩ := hp1
      have hu := Lib.parseUintB_le hp
      refine (Tryd.strconv_ParseUint_10_at64_ok s (by omega) u hp W).mono ?_
      rintro e w' ⟨rfl, hw⟩
      refine ⟨Or.inl ⟨u, by omega, rfl⟩, ?_⟩
      rcases hw with rfl | rfl
      · exact Chg.refl _ _
      · exact Chg.ofBelow (Go.Joins.below_bytesWorld _ W _ s (Nat.le_refl _))
    by_cases hp : Lib.parseUintB 64 s.data.toList = .range
    · obtain ⟨te, pe, h1⟩ := hW.rng
      refine (Tryd.strconv_ParseUint_10_at64_range s (by omega) hp _ W h1 (Or.inr ⟨te, pe, rfl⟩)).mono ?_
      rintro e w' ⟨N, rfl, _, _, hb⟩
      exact ⟨Or.inr ⟨18446744073709551615, _, by decide, rfl⟩, Chg.ofBelow hb⟩
    · have hp2 : (match Lib.parseUintB 64 s.data.toList with | .ok _ => False | .range => False | _ => True) := by
        revert hp1 hp
        generalize Lib.parseUintB 64 s.data.toList = r
        intro hp1 hp
        cases r <;> first | exact hp1 ⟨_, rfl⟩ | exact hp rfl | trivial
      obtain ⟨te, pe, h1⟩ := hW.syn
      refine (Tryd.strconv_ParseUint_10_at64_syntax s (by omega) hp2 _ W h1 (Or.inr ⟨te, pe, rfl⟩)).mono ?_
      rintro e w' ⟨N, rfl, _, _, hb⟩
      exact ⟨Or.inr ⟨0, _, by decide, rfl⟩, Chg.ofBelow hb⟩
  clear hg
  go_enter Tryd.func39, Tryd.ntmps39
  go_wp2_with fail
  go_loopg [4] s.size (fun g v4 wr => ∃ k : Nat, v4 = .int .i64 k ∧ k ≤ s.size ∧ s.size - k = g ∧ wr = w)
  case atStart => exact ⟨0, rfl, by omega, by omega, rfl⟩
  case round =>
    obtain ⟨k, rfl, hk, hgg, rfl⟩ := hrel
    by_cases hkn : k < s.size
    · have hki : (k : Int) < (s.size : Int) := by omega
      have hk0 : (0 : Int) ≤ (k : Int) := by omega
      go_wp2_with fail
      all_goals first
        | (go_roundg (s.size - (k + 1))
           case measure => omega
           case rel => exact ⟨k + 1, by go_num, by omega, by omega, rfl⟩)
        | (go_ret2
           exact ⟨⟨0, false, by decide, rfl⟩, Chg.refl _ _⟩)
    · obtain rfl : k = s.size := by omega
      go_wp2_with fail
      refine ((HU _).out (Chg.refl _ _)).mono ?_
      rintro e w1 ⟨h, hc⟩
      have HC := Lib.hid hc
      clear hc HU
      rcases h with ⟨u, hu, rfl⟩ | ⟨u, N, hu, rfl⟩
      · have HH := Lib.hid hu
        clear hu
        go_wp2_with fail
        go_ret2
        exact ⟨⟨_, _, HH.out, rfl⟩, HC.out⟩
      · go_wp2_with fail
        go_ret2
        exact ⟨⟨0, false, by decide, rfl⟩, HC.out⟩
end Go.Proofs.YtedkoplgfidjlaaDoor
