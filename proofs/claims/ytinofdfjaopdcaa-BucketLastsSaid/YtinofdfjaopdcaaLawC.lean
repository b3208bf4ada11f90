/- The laws' without and total. -/
import Derived.Test.YtinofdfjaopdcaaLawB
namespace Go.Proofs.Ytinofdfjaopdcaa
open Go.RowKit
set_option linter.unusedSimpArgs false
set_option linter.unusedVariables false

theorem rid_take {l : List Item} {k : Nat} {x : Item} (hx : l[k]? = some x) (key : ByteArray) : rid (l.take (k + 1)) key = rid (l.take k) key ++ (if x.key = key then [] else [x]) := by
  unfold rid
  rw [List.take_add_one, hx, Option.toList, List.filter_append]
  by_cases h : x.key = key <;> simp [h, keyed]

set_option maxRecDepth 100000 in
theorem lwithout_calls (A : Option Addr) (c : Nat) (l : List Item) (key : ByteArray) (w : World) (hr : Rd w tItem A (l.length * 5) (its l)) (hn : l.length ≤ 1000000) :
    Calls Try.prog 28 #[.slice A l.length c, .string key] w fun e w' => ∃ v, e = .returned v ∧ w'.ownsRow w.heap.size tItem 5 v (rid l key).length (its (rid l key)) ∧ Chg No w w' := by
  have HR := Lib.hid hr
  clear hr
  go_enter Try.func28, Try.ntmps28
  go_wp2
  go_loopg [5, 6] l.length (fun g v5 v6 wr => ∃ k : Nat, v6 = .int .i64 k ∧ k ≤ l.length ∧ l.length - k = g ∧ Hid (Chg No w wr ∧ wr.ownsRow w.heap.size tItem 5 v5 (rid (l.take k) key).length (its (rid (l.take k) key))))
  case atStart => exact ⟨0, rfl, by omega, by omega, ⟨Chg.refl _ _, World.ownsRow_nil _ _ _ _⟩⟩
  case round =>
    obtain ⟨k, rfl, hk, hgn, H⟩ := hrel
    subst hgn
    by_cases h0 : k < l.length
    · obtain ⟨x, hx⟩ : ∃ x, l[k]? = some x := ⟨_, List.getElem?_eq_getElem h0⟩
      obtain ⟨g, off, rfl, hg, hc⟩ := (HR.out.chg H.out.1 (fun _ _ _ _ h => h)).at_ (j := k * 5) (by omega)
      have c0 := hc (k * 5 + 0) _ (its_get l k 0 x hx (by omega))
      have c1 := hc (k * 5 + 1) _ (its_get l k 1 x hx (by omega))
      have c2 := hc (k * 5 + 2) _ (its_get l k 2 x hx (by omega))
      have c3 := hc (k * 5 + 3) _ (its_get l k 3 x hx (by omega))
      have c4 := hc (k * 5 + 4) _ (its_get l k 4 x hx (by omega))
      simp only [itc, List.getElem_cons_zero, List.getElem_cons_succ, ← Nat.add_assoc, Nat.add_zero] at c0 c1 c2 c3 c4
      have HS := Lib.hid (rid_take hx key)
      have hlen : (rid (l.take k) key).length ≤ k := by
        refine Nat.le_trans (List.length_filter_le _ _) ?_
        rw [List.length_take]; omega
      have hb : w.heap.size ≤ wr.heap.size := H.out.1.size
      have hse := str_eq x.key key
      clear hx hc
      by_cases he : x.key = key
      · rw [decide_eq_true he] at hse
        rw [if_pos he, List.append_nil] at HS
        clear he
        have hbb : (x.key.toList != key.toList) = false := by simp only [bne, hse]; rfl
        go_wp2
        go_roundg (l.length - (k + 1))
        case measure => omega
        case rel => exact ⟨k + 1, rfl, by omega, rfl, H.out.1, by rw [HS.out]; exact H.out.2⟩
      · rw [decide_eq_false he] at hse
        rw [if_neg he] at HS
        have HO := Lib.hid H.out.2
        clear he
        have hbb : (x.key.toList != key.toList) = true := by simp only [bne, hse]; rfl
        go_wp2_with (first
          | (at_builtin; go_loud (refine wpList_app _ rfl (.tmp 20) (.tmp 25) 33 rfl tItem Try.underlying33 ti_item rfl (by omega) w.heap.size _ _ _ rfl (HO.out.alloc _) tItem _ 1 1 (itc x) rfl (rd_item _ x) (itc_one_cell x) (by simp only [maxLen]; omega) (by omega) (by simp; omega) ?_); intro v2 w2 ho2 hg2 hb2; have HO2 := Lib.hid ho2; have HG2 := Lib.hid hg2; clear ho2 hg2 hb2))
        go_roundg (l.length - (k + 1))
        case measure => omega
        case rel =>
          refine ⟨k + 1, rfl, by omega, rfl, (H.out.1.alloc _).grown HG2.out (fun k' hk' => .inr (own_new HO.out k' hk')), ?_⟩
          rw [HS.out, List.length_append, its_append, its_one]
          exact HO2.out
    · have e3 : k = l.length := by omega
      subst e3
      rw [List.take_length] at H
      go_wp2
      go_ret
      exact ⟨_, rfl, H.out.2, H.out.1⟩
end Go.Proofs.Ytinofdfjaopdcaa
