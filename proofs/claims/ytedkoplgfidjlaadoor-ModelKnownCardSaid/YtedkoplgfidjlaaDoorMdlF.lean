/- The model's arith, walked. -/
import Derived.Test.YtedkoplgfidjlaaDoorMdlC
import Derived.Test.YtedkoplgfidjlaaDoorMdlE
namespace Go.Proofs.YtedkoplgfidjlaaDoor
open Go.RowKit
open Go.ChangeMaps (setBlock)
attribute [local go_sem ↓] Go.wp_at_zero Go.wp_at_succ
set_option linter.unusedSimpArgs false
set_option linter.unusedVariables false

abbrev tAri : TypeId := 69
/-- an arith, as it is told -/
structure ArC where
  key : ByteArray
  by_ : UInt64
  down : Bool
  quiet : Bool
abbrev arc (c : ArC) : Array Value := #[.string c.key, .int .u64 c.by_.toNat, .bool c.down, .bool c.quiet]
section
variable {w w' : World} {m M : Nat} {es : Its}
set_option maxRecDepth 100000 in
set_option maxHeartbeats 8000000 in
theorem marith_calls (hg : Glob w) (h : Mp w m M es) (hmM : m ≠ M) (c : ArC) (now : Int) (v : UInt64) :
    Calls Tryd.prog 24 #[.pointer (some ⟨m, 0, none⟩), .agg (arc c), .int .i64 now, .int .u64 v.toNat] w fun e w' => (∃ u, e = .returned u ∧ LineR w w' m M u (fun _ es' => es'.length ≤ es.length + 1)) ∧ Chg (fun k => k = M) w w' := by
  have c0 := h.box.cell 0
  simp at c0
  have hlt := h.box.lt
  have hMlt := h.map.lt
  obtain ⟨key, by_, down, quiet⟩ := c
  have HG := fun W => Lib.hid (fun hc : Chg No w W => mget_calls (h.chgNo hc) key now)
  have HN := fun W => fun s => Lib.hid (fun hc : Chg No w W => number_calls (hg.chgNo hc) s)
  have HT := fun W => fun n => fun hn => Lib.hid (fun hc : Chg No w W => text_calls (hg.chgNo hc) n hn)
  have HM := Lib.hid h
  have hok : (mget es key now).isSome = true → ((mget es key now).getD Item.zero).key.size ≤ 250 := by
    intro h1
    obtain ⟨x, hx⟩ := Option.isSome_iff_exists.1 h1
    rw [hx]
    have h3 := (mget_ok h hx)
    show x.key.size ≤ 250
    rw [h3.2]; exact h3.1.2.1
  obtain ⟨wx, hwx⟩ : ∃ wx, wx = (mget es key now).getD Item.zero := ⟨_, rfl⟩
  obtain ⟨th, hth⟩ : ∃ th, th = (mget es key now).isSome := ⟨_, rfl⟩
  simp only [← hwx, ← hth] at HG hok
  simp only [arc]
  have HB := by_.toNat_lt
  obtain ⟨b, hb⟩ : ∃ b, b = by_.toNat := ⟨_, rfl⟩
  rw [← hb] at HB ⊢
  have HOK : Hid ((th = true → wx.key.size ≤ 250) ∧ b < 18446744073709551616) := ⟨hok, by omega⟩
  clear h hg hok hwx hth hb HB
  go_enter Tryd.func24, Tryd.ntmps24
  go_wp2_with fail
  refine ((HG _).out ((Chg.refl No w).alloc _)).mono ?_
  rintro e w1 ⟨rfl, hc1⟩
  have hb1 := ((Blk.new w tAri #[.string key, .int .u64 b, .bool down, .bool quiet]).chg hc1 (fun h => h))
  have hb2 := hb1.alloc (.cells #[.string wx.key, .string wx.val, .int .u32 wx.flags.toNat, .int .i64 wx.exp.toInt, .int .u64 wx.ver.toNat] tItem)
  have HBX := Lib.hid (Blk.new w1 tItem #[.string wx.key, .string wx.val, .int .u32 wx.flags.toNat, .int .i64 wx.exp.toInt, .int .u64 wx.ver.toNat])
  have HC1 : Hid (Chg No w w1) := ((Chg.refl No w).alloc _).trans hc1
  have HB2 := Lib.hid hb2
  have hbl := hb2.lt
  clear HG hc1 hb1 hb2
  cases th with
  | false =>
    go_wp2_with fail
    refine (mline_raw (HM.out.chgNo (HC1.out.alloc _)) _).mono ?_
    rintro e w5 ⟨u, rfl, hl, hc5⟩
    have HR := Lib.hid (hl.lift (w0 := w) (HC1.out.alloc _).size (Q := fun _ es' => es'.length ≤ es.length + 1) (fun _ _ h8 => by rw [h8.2]; exact Nat.le_succ _))
    have HC5 : Hid (Chg (fun k => k = M) w w5) := ((HC1.out.alloc _).mono (fun _ _ h => h.elim)).trans hc5
    clear hl hc5
    go_wp2_with fail
    go_ret
    exact ⟨⟨u, rfl, HR.out⟩, HC5.out⟩
  | true =>
    go_wp2_with fail
    refine ((HN _ _).out (HC1.out.alloc _)).mono ?_
    rintro e w3 ⟨⟨n, ok, hn, rfl⟩, hc3⟩
    have HC3 : Hid (Chg No w w3) := (HC1.out.alloc _).trans hc3
    have HBY := Lib.hid (HB2.out.chg hc3 (fun h => h))
    have HBX := Lib.hid (HBX.out.chg hc3 (fun h => h))
    have HNN := Lib.hid hn
    clear HB2 HN hbl
    have z1 := HBY.out.cell 1
    have z2 := HBY.out.cell 2
    simp only [List.getElem?_toArray, List.getElem?_cons_zero, List.getElem?_cons_succ] at z1 z2
    clear hc3 hn
    cases ok with
    | false =>
      go_wp2_with fail
      refine (mline_raw (HM.out.chgNo HC3.out) _).mono ?_
      rintro e w5 ⟨u, rfl, hl, hc5⟩
      have HR := Lib.hid (hl.lift (w0 := w) HC3.out.size (Q := fun _ es' => es'.length ≤ es.length + 1) (fun _ _ h8 => by rw [h8.2]; exact Nat.le_succ _))
      have HC5 : Hid (Chg (fun k => k = M) w w5) := (HC3.out.mono (fun _ _ h => h.elim)).trans hc5
      clear hl hc5
      go_wp2_with fail
      go_ret
      exact ⟨⟨u, rfl, HR.out⟩, HC5.out⟩
    | true =>
      cases down with
      | false =>
        have hwr : IntKind.u64.wrap ((n : Int) + (b : Int)) = (((n + b) % 18446744073709551616 : Nat) : Int) := by
          simp [IntKind.wrap, IntKind.signed, IntKind.bits]
        go_wp2_with fail
        refine ((HT _ ((n + b) % 18446744073709551616) (by omega)).out HC3.out).mono ?_
        rintro e w4 ⟨⟨t, ht, rfl⟩, hcT⟩
        have HCT : Hid (Chg No w w4) := HC3.out.trans hcT
        have HX2 := Lib.hid (HBX.out.chg hcT (fun h => h))
        have HMT := Lib.hid (HM.out.chgNo HCT.out)
        have x0 := HX2.out.cell 0
        have x1 := HX2.out.cell 1
        have x2 := HX2.out.cell 2
        have x3 := HX2.out.cell 3
        have x4 := HX2.out.cell 4
        have g1 := HX2.out.frozen 1
        have y0 := (HX2.out.set_ 1 (.string t)).cell 0
        have y1 := (HX2.out.set_ 1 (.string t)).cell 1
        have y2 := (HX2.out.set_ 1 (.string t)).cell 2
        have y3 := (HX2.out.set_ 1 (.string t)).cell 3
        have y4 := (HX2.out.set_ 1 (.string t)).cell 4
        simp only [List.setIfInBounds_toArray, List.set_cons_zero, List.set_cons_succ, List.getElem?_toArray, List.getElem?_cons_zero, List.getElem?_cons_succ] at x0 x1 x2 x3 x4 y0 y1 y2 y3 y4
        have HCS : Hid (Chg No w (w4.setCell ⟨w1.heap.size, 1, none⟩ (.string t))) := HCT.out.setCell (.inr HC1.out.size) _
        clear hcT
        go_wp2_with fail
        refine (mset_raw (HM.out.chgNo HCS.out) hmM wx.key t wx.flags wx.exp.toInt wx.ver.toNat (tm_exp wx) ⟨wx.ver, rfl⟩ v _ (HOK.out.1 trivial) (by omega)).mono ?_
        rintro e w5 ⟨u, rfl, hl, hc5⟩
        have HR := Lib.hid (hl.lift (w0 := w) HCS.out.size (Q := fun _ es' => es'.length ≤ es.length + 1) (fun _ _ h8 => by rw [h8.2]; exact aset_len _ _ _))
        have HC5 : Hid (Chg (fun k => k = M) w w5) := (HCS.out.mono (fun _ _ h => h.elim)).trans hc5
        clear hl hc5
        go_wp2_with fail
        go_ret
        exact ⟨⟨u, rfl, HR.out⟩, HC5.out⟩
      | true =>
        by_cases hle : n ≤ b
        · have hmin : min (n : Int) (b : Int) = (n : Int) := by omega
          have hwr : IntKind.u64.wrap ((n : Int) - (n : Int)) = ((0 : Nat) : Int) := by simp [IntKind.wrap, IntKind.signed, IntKind.bits]
          go_wp2_with fail
          refine ((HT _ 0 (by omega)).out HC3.out).mono ?_
          rintro e w4 ⟨⟨t, ht, rfl⟩, hcT⟩
          have HCT : Hid (Chg No w w4) := HC3.out.trans hcT
          have HX2 := Lib.hid (HBX.out.chg hcT (fun h => h))
          have HMT := Lib.hid (HM.out.chgNo HCT.out)
          have x0 := HX2.out.cell 0
          have x1 := HX2.out.cell 1
          have x2 := HX2.out.cell 2
          have x3 := HX2.out.cell 3
          have x4 := HX2.out.cell 4
          have g1 := HX2.out.frozen 1
          have y0 := (HX2.out.set_ 1 (.string t)).cell 0
          have y1 := (HX2.out.set_ 1 (.string t)).cell 1
          have y2 := (HX2.out.set_ 1 (.string t)).cell 2
          have y3 := (HX2.out.set_ 1 (.string t)).cell 3
          have y4 := (HX2.out.set_ 1 (.string t)).cell 4
          simp only [List.setIfInBounds_toArray, List.set_cons_zero, List.set_cons_succ, List.getElem?_toArray, List.getElem?_cons_zero, List.getElem?_cons_succ] at x0 x1 x2 x3 x4 y0 y1 y2 y3 y4
          have HCS : Hid (Chg No w (w4.setCell ⟨w1.heap.size, 1, none⟩ (.string t))) := HCT.out.setCell (.inr HC1.out.size) _
          clear hcT
          go_wp2_with fail
          refine (mset_raw (HM.out.chgNo HCS.out) hmM wx.key t wx.flags wx.exp.toInt wx.ver.toNat (tm_exp wx) ⟨wx.ver, rfl⟩ v _ (HOK.out.1 trivial) (by omega)).mono ?_
          rintro e w5 ⟨u, rfl, hl, hc5⟩
          have HR := Lib.hid (hl.lift (w0 := w) HCS.out.size (Q := fun _ es' => es'.length ≤ es.length + 1) (fun _ _ h8 => by rw [h8.2]; exact aset_len _ _ _))
          have HC5 : Hid (Chg (fun k => k = M) w w5) := (HCS.out.mono (fun _ _ h => h.elim)).trans hc5
          clear hl hc5
          go_wp2_with fail
          go_ret
          exact ⟨⟨u, rfl, HR.out⟩, HC5.out⟩
        · have hmin : min (n : Int) (b : Int) = (b : Int) := by omega
          have hwr : IntKind.u64.wrap ((n : Int) - (b : Int)) = ((n - b : Nat) : Int) := by
            have := HNN.out
            simp [IntKind.wrap, IntKind.signed, IntKind.bits]
            omega
          go_wp2_with fail
          refine ((HT _ (n - b) (by have := HNN.out; omega)).out HC3.out).mono ?_
          rintro e w4 ⟨⟨t, ht, rfl⟩, hcT⟩
          have HCT : Hid (Chg No w w4) := HC3.out.trans hcT
          have HX2 := Lib.hid (HBX.out.chg hcT (fun h => h))
          have HMT := Lib.hid (HM.out.chgNo HCT.out)
          have x0 := HX2.out.cell 0
          have x1 := HX2.out.cell 1
          have x2 := HX2.out.cell 2
          have x3 := HX2.out.cell 3
          have x4 := HX2.out.cell 4
          have g1 := HX2.out.frozen 1
          have y0 := (HX2.out.set_ 1 (.string t)).cell 0
          have y1 := (HX2.out.set_ 1 (.string t)).cell 1
          have y2 := (HX2.out.set_ 1 (.string t)).cell 2
          have y3 := (HX2.out.set_ 1 (.string t)).cell 3
          have y4 := (HX2.out.set_ 1 (.string t)).cell 4
          simp only [List.setIfInBounds_toArray, List.set_cons_zero, List.set_cons_succ, List.getElem?_toArray, List.getElem?_cons_zero, List.getElem?_cons_succ] at x0 x1 x2 x3 x4 y0 y1 y2 y3 y4
          have HCS : Hid (Chg No w (w4.setCell ⟨w1.heap.size, 1, none⟩ (.string t))) := HCT.out.setCell (.inr HC1.out.size) _
          clear hcT
          go_wp2_with fail
          refine (mset_raw (HM.out.chgNo HCS.out) hmM wx.key t wx.flags wx.exp.toInt wx.ver.toNat (tm_exp wx) ⟨wx.ver, rfl⟩ v _ (HOK.out.1 trivial) (by omega)).mono ?_
          rintro e w5 ⟨u, rfl, hl, hc5⟩
          have HR := Lib.hid (hl.lift (w0 := w) HCS.out.size (Q := fun _ es' => es'.length ≤ es.length + 1) (fun _ _ h8 => by rw [h8.2]; exact aset_len _ _ _))
          have HC5 : Hid (Chg (fun k => k = M) w w5) := (HCS.out.mono (fun _ _ h => h.elim)).trans hc5
          clear hl hc5
          go_wp2_with fail
          go_ret
          exact ⟨⟨u, rfl, HR.out⟩, HC5.out⟩
end
end Go.Proofs.YtedkoplgfidjlaaDoor
