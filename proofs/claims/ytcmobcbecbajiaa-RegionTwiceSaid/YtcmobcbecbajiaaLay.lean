/- rec.Lay. -/
import Derived.Test.YtcmobcbecbajiaaItems
import Derived.Test.YtcmobcbecbajiaaZeros
namespace Go.Proofs.Ytcmobcbecbajiaa
open Go.RowKit
set_option linter.unusedSimpArgs false
set_option linter.unusedVariables false

theorem records_snoc (l : List Item) (x : Item) : records (l ++ [x]) = records l ++ record x := by simp [records]
theorem goods_append (a b : List Item) : goods (a ++ b) = (goods a && goods b) := by simp [goods]
theorem record_le (x : Item) (h : x.good = true) : (record x).length ≤ 1306 := by
  have hg := h
  simp only [Item.good, Bool.and_eq_true, decide_eq_true_eq] at hg
  have e : (record x).length = x.size := record_length x
  rw [e]; unfold Item.size; omega
theorem records_le (l : List Item) (h : goods l = true) : (records l).length ≤ 1306 * l.length := by
  induction l with
  | nil => simp [records]
  | cons x r ih =>
    simp only [goods, List.all_cons, Bool.and_eq_true] at h
    have h1 := record_le x h.1
    have h2 := ih h.2
    simp only [records, List.flatMap_cons, List.length_append, List.length_cons] at h2 ⊢
    omega

set_option maxRecDepth 100000 in
theorem lay_calls (A : Option Addr) (c : Nat) (l : List Item) (room : Nat) (w : World) (hr : Rd w tItem A (l.length * 5) (its l)) (hn : l.length ≤ 10000000) (hroom : room ≤ 65536) :
    Calls Try.prog 96 #[.slice A l.length c, .int .i64 room] w fun e w' => ∃ v, e = .returned (.tuple #[v, .int .i64 (layE l room)]) ∧ w'.ownsRow w.heap.size tU8 1 v (layB l room).length (bys (layB l room)) ∧ Chg No w w' := by
  have HR := Lib.hid hr
  clear hr
  go_enter Try.func96, Try.ntmps96
  go_wp2
  go_loopg [6, 13] (l.length) (fun g v6 v13 wr => ∃ (k : Nat) , v13 = .int .i64 k ∧ k ≤ l.length ∧ g = l.length - k ∧ Hid (goods (l.take k) = true ∧ wr.ownsRow w.heap.size tU8 1 v6 (records (l.take k)).length (bys (records (l.take k))) ∧ Chg No w wr))
  case atStart => exact ⟨0, rfl, Nat.zero_le _, rfl, ⟨rfl, World.ownsRow_nil _ _ _ _, Chg.refl _ _⟩⟩
  case round =>
    obtain ⟨k, rfl, hk, rfl, H⟩ := hrel
    by_cases h0 : k < l.length
    · obtain ⟨x, hx⟩ : ∃ x, l[k]? = some x := ⟨_, List.getElem?_eq_getElem h0⟩
      have hr1 : Rd wr tItem A (l.length * 5) (its l) := HR.out.chg H.out.2.2 (fun _ _ _ _ h => h)
      obtain ⟨g, off, rfl, hg, hc⟩ := hr1.at_ (j := k * 5) (by omega)
      have c0 := hc (k * 5 + 0) _ (its_get l k 0 x hx (by omega))
      have c1 := hc (k * 5 + 1) _ (its_get l k 1 x hx (by omega))
      have c2 := hc (k * 5 + 2) _ (its_get l k 2 x hx (by omega))
      have c3 := hc (k * 5 + 3) _ (its_get l k 3 x hx (by omega))
      have c4 := hc (k * 5 + 4) _ (its_get l k 4 x hx (by omega))
      simp only [itc, List.getElem_cons_zero, List.getElem_cons_succ, ← Nat.add_assoc, Nat.add_zero] at c0 c1 c2 c3 c4
      have HX := Lib.hid hx
      have HO := Lib.hid H.out.2.1
      have HC := Lib.hid H.out.2.2
      have HG := Lib.hid H.out.1
      have hlen : (records (l.take k)).length ≤ 1306 * k := by
        have := records_le (l.take k) H.out.1
        rw [List.length_take] at this
        omega
      have HL := Lib.hid hlen
      have hbase : w.heap.size ≤ wr.heap.size := H.out.2.2.size
      clear H hlen hr1 hx
      have ht : Hid (l.take (k + 1) = l.take k ++ [x]) := by
        show _ = _
        rw [List.take_add_one, HX.out]; rfl
      by_cases hgx : x.good = true
      · have HP := fun W => Lib.hid (put_good x W hgx)
        have HGX := Lib.hid hgx
        have hrl := record_le x hgx
        clear hgx
        go_wp2_with fail
        refine (HP _).out.mono ?_
        rintro e w1 ⟨v, rfl, ho1, hc1⟩
        obtain ⟨A1, c1, rfl, hc1n, hrd1⟩ := own_slice ho1
        have HO1 := Lib.hid (own_chg HO.out ((Chg.refl No wr).alloc _ |>.trans hc1) (fun _ _ h => h))
        have HC1 := Lib.hid hc1
        have HRD := Lib.hid hrd1
        have hs1 : wr.heap.size + 1 ≤ w1.heap.size := by have := hc1.size; simpa using this
        clear hc1 ho1 hrd1
        go_wp2_with (first
          | (at_builtin; refine wpList_app _ rfl (.tmp 25) (.tmp 26) 31 rfl tU8 Try.underlying31 ti_u8 rfl (by omega) w.heap.size _ _ _ rfl HO1.out tU8 _ _ _ _ rfl HRD.out (bys_one) (by have := HL.out; simp only [maxLen]; omega) (by have := HL.out; omega) (by omega) ?_; intro v2 w2 ho2 hg2 hb2; have HO2 := Lib.hid ho2; have HG2 := Lib.hid hg2; clear ho2 hg2 hb2))
        go_roundg (l.length - (k + 1))
        case measure => omega
        case rel =>
          refine ⟨k + 1, rfl, by omega, rfl, ?_, ?_, ?_⟩
          · rw [ht.out, goods_append, HG.out]; simp [goods, HGX.out]
          · rw [ht.out, records_snoc, bys_append, List.length_append]
            exact HO2.out
          · exact ((HC.out.alloc _).trans HC1.out).grown HG2.out (fun k' hk' => .inr (own_new HO1.out k' hk'))
      · have HP := fun W => Lib.hid (put_bad x W (by simpa using hgx))
        have HE : Hid (layE l room = 1) := by
          have : goods l = false := by
            simp only [goods]
            rw [Bool.eq_false_iff]
            intro hall
            exact hgx (List.all_eq_true.1 hall x (List.mem_of_getElem? HX.out))
          show _ = _
          unfold layE
          rw [this]; rfl
        clear hgx
        go_wp2_with fail
        refine (HP _).out.mono ?_
        rintro e w1 ⟨rfl, hc1⟩
        have HC1 := Lib.hid hc1
        clear hc1
        go_wp2
        go_ret2
        refine ⟨_, by rw [HE.out]; rfl, ?_, ?_⟩
        · rw [layB, HE.out]; exact World.ownsRow_nil _ _ _ _
        · exact (HC.out.alloc _).trans HC1.out
    · have hkl : l.take k = l := List.take_of_length_le (by omega)
      rw [hkl] at H
      have hlen := records_le l H.out.1
      have hgl := H.out.1
      obtain ⟨R, hR⟩ : ∃ R, R = (records l).length := ⟨_, rfl⟩
      have HO := Lib.hid H.out.2.1
      have HC := Lib.hid H.out.2.2
      have HRr := Lib.hid hR
      obtain ⟨A1, c1, rfl, hc1n, hrd1⟩ := own_slice HO.out
      have hbase : w.heap.size ≤ wr.heap.size := H.out.2.2.size
      rw [← hR] at hlen
      have e0 : ¬ (65536 : Int) < room := by omega
      have hE : layE l room = if room < R then 7 else 0 := by
        unfold layE
        rw [hgl, if_pos rfl, if_neg e0, ← hR]
        by_cases h : room < R
        · rw [if_pos h, if_pos (by omega)]
        · rw [if_neg h, if_neg (by omega)]
      have HE := Lib.hid hE
      clear H hE hgl hrd1 hkl
      rw [← hR] at HO
      rw [← hR]
      clear hR
      by_cases hfull : room < R
      · have e1 : (room : Int) < (R : Int) := by omega
        rw [if_pos hfull] at HE
        clear hfull
        go_wp2
        go_ret2
        refine ⟨_, by rw [HE.out]; rfl, ?_, ?_⟩
        · rw [layB, HE.out]; exact World.ownsRow_nil _ _ _ _
        · exact HC.out
      · have e1 : ¬ (room : Int) < (R : Int) := by omega
        rw [if_neg hfull] at HE
        obtain ⟨m, hm⟩ : ∃ m, room = R + m := ⟨room - R, by omega⟩
        have e2 : (room : Int) - (R : Int) = (m : Int) := by omega
        have e3 : IntKind.i64.wrap ((room : Int) - (R : Int)) = (m : Int) := by rw [e2]; exact IntWalk.i64_in _ (by omega)
        have HM := Lib.hid hm
        have hmr : R + m ≤ 65536 := by omega
        clear hfull hm
        go_wp2_with (first
          | (at_builtin; refine wpList_zeros rfl (.tmp 37) (.tmp 41) 31 3 rfl tU8 Try.underlying31 Try.underlying3 ti_u8 rfl rfl (by omega) w.heap.size _ _ _ rfl HO.out m .i64 rfl (by omega) (by omega) ?_; intro v2 w2 ho2 hg2 hb2; have HO2 := Lib.hid ho2; have HG2 := Lib.hid hg2; clear ho2 hg2 hb2))
        go_ret2
        have hb : layB l room = records l ++ List.replicate m 0 := by
          rw [layB, HE.out, if_pos rfl, ← HRr.out, HM.out]
          simp
          omega
        refine ⟨_, by rw [HE.out]; rfl, ?_, ?_⟩
        · rw [hb, List.length_append, List.length_replicate, bys_append]
          have := HO2.out
          rw [HRr.out] at this
          simpa [bys] using this
        · exact HC.out.grown HG2.out (fun k' hk' => .inr (own_new HO.out k' hk'))
end Go.Proofs.Ytcmobcbecbajiaa
