/- Hashes, walked. -/
import Derived.Test.YtinofdfjaopdcaaRecA
import Derived.Test.YtinofdfjaopdcaaSumSpec
namespace Go.Proofs.Ytinofdfjaopdcaa
open Go.RowKit
set_option linter.unusedSimpArgs false
set_option linter.unusedVariables false

theorem hfold_snoc (h : Nat) (l : List UInt8) (c : UInt8) : hfold h (l ++ [c]) = hstep (hfold h l) c := by
  unfold hfold
  rw [List.foldl_append, List.foldl_cons, List.foldl_nil]

theorem hstep_wrap (z : Nat) (x : UInt8) : IntKind.u64.wrap (((z ^^^ x.toNat : Nat) : Int) * 1099511628211) = ((hstep z x : Nat) : Int) := by
  rw [IntKind.wrap_u64]
  unfold hstep hprime
  omega

theorem fold_calls (h : Nat) (s : ByteArray) (w : World) (hh : h < 18446744073709551616) (hs : s.size ≤ 140737488351232) :
    Calls Try.prog 102 #[.int .u64 h, .string s] w fun e w' => e = .returned (.int .u64 (hfold h s.data.toList)) ∧ w = w' := by
  go_enter Try.func102, Try.ntmps102
  go_wp2
  go_loopg [0, 5] s.size (fun k v i wr => ∃ q : Nat, k = s.size - q ∧ q ≤ s.size ∧ w = wr ∧ i = .int .i64 q ∧ v = .int .u64 ((hfold h (s.data.toList.take q) : Nat) : Int))
  case atStart => exact ⟨0, rfl, Nat.zero_le _, rfl, rfl, rfl⟩
  case round =>
    obtain ⟨j, rfl, hj, rfl, rfl, rfl⟩ := hrel
    by_cases h0 : j < s.size
    · obtain ⟨z, hz⟩ : ∃ z, z = hfold h (s.data.toList.take j) := ⟨_, rfl⟩
      rw [← hz]
      have hzl : z < 18446744073709551616 := by rw [hz]; exact hfold_lt hh _
      obtain ⟨x, hx⟩ : ∃ x, x = s[j] := ⟨_, rfl⟩
      have hx8 := x.toNat_lt
      have HV : Hid (hfold h (s.data.toList.take (j + 1)) = hstep z x) := by
        show _ = _
        have e : s.data.toList.take (j + 1) = s.data.toList.take j ++ [s[j]] := by
          rw [List.take_succ_eq_append_getElem (by rw [Array.length_toList]; exact h0)]; rfl
        rw [e, hfold_snoc, ← hz, ← hx]
      have HX := Lib.hid (bits_xor64 z x.toNat hzl (by omega))
      have HXX := Lib.hid hx
      clear hz
      go_wp2
      go_roundg (s.size - (j + 1))
      case measure => omega
      case rel => 
        refine ⟨j + 1, rfl, by omega, rfl, rfl, ?_⟩
        rw [← HXX.out, wraps_u64 (x.toNat : Int) (by omega) (by omega), HX.out, HV.out]
        exact congrArg _ (hstep_wrap z x)
    · have e : j = s.size := by omega
      have HT : Hid (s.data.toList.take j = s.data.toList) := List.take_of_length_le (by rw [Array.length_toList, e]; exact Nat.le_refl _)
      rw [HT.out]
      clear e
      go_wp2
      go_ret
      exact ⟨rfl, rfl⟩

theorem hash_calls (s : ByteArray) (w : World) (hs : s.size ≤ 140737488351232) :
    Calls Try.prog 91 #[.string s] w fun e w' => e = .returned (.int .u64 (khash s.data.toList)) ∧ w = w' := by
  have H := Lib.hid (fold_calls hbegin s w (by decide) hs)
  unfold hbegin at H
  go_enter Try.func91, Try.ntmps91
  go_wp2_with fail
  refine H.out.mono ?_
  rintro e w1 ⟨rfl, rfl⟩
  go_wp2
  go_ret
  exact ⟨rfl, rfl⟩

theorem second_calls (s : ByteArray) (w : World) (hs : s.size ≤ 140737488351232) :
    Calls Try.prog 101 #[.string s] w fun e w' => e = .returned (.int .u64 (ksecond s.data.toList)) ∧ w = w' := by
  have H1 := Lib.hid (fold_calls hprime ⟨#[0]⟩ w (by decide) (by decide))
  have H2 := Lib.hid (fold_calls (hfold hprime [0]) s w (hfold_lt (by decide) _) hs)
  unfold hprime at H1
  go_enter Try.func101, Try.ntmps101
  go_wp2_with fail
  refine H1.out.mono ?_
  rintro e w1 ⟨rfl, rfl⟩
  go_wp2_with fail
  refine H2.out.mono ?_
  rintro e w1 ⟨rfl, rfl⟩
  go_wp2
  go_ret
  exact ⟨rfl, rfl⟩
end Go.Proofs.Ytinofdfjaopdcaa
