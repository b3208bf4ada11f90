/- The document's Hash; others, without, total. -/
import Derived.Test.YtinofdfjaopdcaaLawA
namespace Go.Proofs.Ytinofdfjaopdcaa
open Go.RowKit
set_option linter.unusedSimpArgs false
set_option linter.unusedVariables false

theorem turn_calls (h : Nat) (s : ByteArray) (w : World) (hh : h < 18446744073709551616) (hs : s.size ≤ 140737488351232) :
    Calls Try.prog 71 #[.int .u64 h, .string s] w fun e w' => e = .returned (.int .u64 (hfold h s.data.toList)) ∧ w = w' := by
  go_enter Try.func71, Try.ntmps71
  go_wp2
  go_loopg [0, 5] s.size (fun k v i wr => ∃ q : Nat, k = s.size - q ∧ q ≤ s.size ∧ w = wr ∧ i = .int .i64 q ∧ v = .int .u64 ((hfold h (s.data.toList.take q) : Nat) : Int))
  case atStart => exact ⟨0, rfl, Nat.zero_le _, rfl, rfl, rfl⟩
  case round =>
    obtain ⟨j, rfl, hj, rfl, rfl, rfl⟩ := hrel
    by_cases h0 : j < s.size
    · obtain ⟨z, hz⟩ : ∃ z, z = hfold h (s.data.toList.take j) := ⟨_, rfl⟩
      rw [← hz]
      have hzl : z < 18446744073709551616 := by rw [hz]; exact hfold_lt hh _
      obtain ⟨x, hx⟩ : ∃ x, x = s[j] := ⟨_, rfl⟩
      have hx8 := x.toNat_lt
      have HV : Hid (hfold h (s.data.toList.take (j + 1)) = hstep z x) := by
        show _ = _
        have e : s.data.toList.take (j + 1) = s.data.toList.take j ++ [s[j]] := by
          rw [List.take_succ_eq_append_getElem (by rw [Array.length_toList]; exact h0)]; rfl
        rw [e, hfold_snoc, ← hz, ← hx]
      have HX := Lib.hid (bits_xor64 z x.toNat hzl (by omega))
      have HXX := Lib.hid hx
      clear hz
      go_wp2
      go_roundg (s.size - (j + 1))
      case measure => omega
      case rel => 
        refine ⟨j + 1, rfl, by omega, rfl, rfl, ?_⟩
        rw [← HXX.out, wraps_u64 (x.toNat : Int) (by omega) (by omega), HX.out, HV.out]
        exact congrArg _ (hstep_wrap z x)
    · have e : j = s.size := by omega
      have HT : Hid (s.data.toList.take j = s.data.toList) := List.take_of_length_le (by rw [Array.length_toList, e]; exact Nat.le_refl _)
      rw [HT.out]
      clear e
      go_wp2
      go_ret
      exact ⟨rfl, rfl⟩

theorem rhash_calls (s : ByteArray) (w : World) (hs : s.size ≤ 140737488351232) :
    Calls Try.prog 32 #[.string s] w fun e w' => e = .returned (.int .u64 (khash s.data.toList)) ∧ w = w' := by
  have H := Lib.hid (turn_calls hbegin s w (by decide) hs)
  unfold hbegin at H
  go_enter Try.func32, Try.ntmps32
  go_wp2_with fail
  refine H.out.mono ?_
  rintro e w1 ⟨rfl, rfl⟩
  go_wp2
  go_ret
  exact ⟨rfl, rfl⟩

/-- the items that do not stand in a bucket -/
def oth (l : List Item) (home : Nat) : List Item := l.filter fun x => decide (khash x.key.data.toList % 4 ≠ home)
theorem oth_take {l : List Item} {k : Nat} {x : Item} (hx : l[k]? = some x) (home : Nat) : oth (l.take (k + 1)) home = oth (l.take k) home ++ (if khash x.key.data.toList % 4 ≠ home then [x] else []) := by
  unfold oth
  rw [List.take_add_one, hx, Option.toList, List.filter_append]
  by_cases h : khash x.key.data.toList % 4 = home <;> simp [h]

set_option maxRecDepth 100000 in
theorem others_calls (A : Option Addr) (c : Nat) (l : List Item) (home : Nat) (w : World) (hr : Rd w tItem A (l.length * 5) (its l)) (hn : l.length ≤ 1000000) (hg : goods l = true) (hh : home < 4) :
    Calls Try.prog 34 #[.slice A l.length c, .int .u64 home] w fun e w' => ∃ v, e = .returned v ∧ w'.ownsRow w.heap.size tItem 5 v (oth l home).length (its (oth l home)) ∧ Chg No w w' := by
  have HR := Lib.hid hr
  have HG := Lib.hid hg
  clear hr hg
  go_enter Try.func34, Try.ntmps34
  go_wp2
  go_loopg [5, 6] l.length (fun g v5 v6 wr => ∃ k : Nat, v6 = .int .i64 k ∧ k ≤ l.length ∧ l.length - k = g ∧ Hid (Chg No w wr ∧ wr.ownsRow w.heap.size tItem 5 v5 (oth (l.take k) home).length (its (oth (l.take k) home))))
  case atStart => exact ⟨0, rfl, by omega, by omega, ⟨Chg.refl _ _, World.ownsRow_nil _ _ _ _⟩⟩
  case round =>
    obtain ⟨k, rfl, hk, hgn, H⟩ := hrel
    subst hgn
    by_cases h0 : k < l.length
    · obtain ⟨x, hx⟩ : ∃ x, l[k]? = some x := ⟨_, List.getElem?_eq_getElem h0⟩
      have hgx : x.good = true := List.all_eq_true.1 HG.out x (List.mem_of_getElem? hx)
      simp only [Item.good, Bool.and_eq_true, decide_eq_true_eq] at hgx
      obtain ⟨g, off, rfl, hg, hc⟩ := (HR.out.chg H.out.1 (fun _ _ _ _ h => h)).at_ (j := k * 5) (by omega)
      have c0 := hc (k * 5 + 0) _ (its_get l k 0 x hx (by omega))
      have c1 := hc (k * 5 + 1) _ (its_get l k 1 x hx (by omega))
      have c2 := hc (k * 5 + 2) _ (its_get l k 2 x hx (by omega))
      have c3 := hc (k * 5 + 3) _ (its_get l k 3 x hx (by omega))
      have c4 := hc (k * 5 + 4) _ (its_get l k 4 x hx (by omega))
      simp only [itc, List.getElem_cons_zero, List.getElem_cons_succ, ← Nat.add_assoc, Nat.add_zero] at c0 c1 c2 c3 c4
      obtain ⟨z, hz⟩ : ∃ z, z = khash x.key.data.toList := ⟨_, rfl⟩
      have hzl : z < 18446744073709551616 := by rw [hz]; exact khash_lt _
      have hcall := rhash_calls x.key wr (by omega)
      rw [← hz] at hcall
      have HC := Lib.hid hcall
      have HS := Lib.hid (oth_take hx home)
      rw [← hz] at HS
      have hlen : (oth (l.take k) home).length ≤ k := by
        refine Nat.le_trans (List.length_filter_le _ _) ?_
        rw [List.length_take]; omega
      have hb : w.heap.size ≤ wr.heap.size := H.out.1.size
      clear hx hgx hc hcall hz
      by_cases he : z % 4 = home
      · have hbb : ((z : Int) % 4 != (home : Int)) = false := by simp; omega
        rw [if_neg (by omega), List.append_nil] at HS
        clear he
        go_wp2_with fail
        refine HC.out.mono ?_
        rintro e w1 ⟨rfl, rfl⟩
        go_wp2
        go_roundg (l.length - (k + 1))
        case measure => omega
        case rel => exact ⟨k + 1, rfl, by omega, rfl, H.out.1, by rw [HS.out]; exact H.out.2⟩
      · have hbb : ((z : Int) % 4 != (home : Int)) = true := by simp; omega
        rw [if_pos he] at HS
        have HO := Lib.hid H.out.2
        clear he
        go_wp2_with fail
        refine HC.out.mono ?_
        rintro e w1 ⟨rfl, rfl⟩
        go_wp2_with (first
          | (at_builtin; go_loud (refine wpList_app _ rfl (.tmp 22) (.tmp 27) 33 rfl tItem Try.underlying33 ti_item rfl (by omega) w.heap.size _ _ _ rfl (HO.out.alloc _) tItem _ 1 1 (itc x) rfl (rd_item _ x) (itc_one_cell x) (by simp only [maxLen]; omega) (by omega) (by simp; omega) ?_); intro v2 w2 ho2 hg2 hb2; have HO2 := Lib.hid ho2; have HG2 := Lib.hid hg2; clear ho2 hg2 hb2))
        go_roundg (l.length - (k + 1))
        case measure => omega
        case rel =>
          refine ⟨k + 1, rfl, by omega, rfl, (H.out.1.alloc _).grown HG2.out (fun k' hk' => .inr (own_new HO.out k' hk')), ?_⟩
          rw [HS.out, List.length_append, its_append, its_one]
          exact HO2.out
    · have e3 : k = l.length := by omega
      subst e3
      rw [List.take_length] at H
      go_wp2
      go_ret
      exact ⟨_, rfl, H.out.2, H.out.1⟩
end Go.Proofs.Ytinofdfjaopdcaa
