/- The model's store, walked. -/
import Derived.Test.YtedkoplgfidjlaaDoorMdlB
import Derived.Deep.RegionHeld3
namespace Go.Proofs.YtedkoplgfidjlaaDoor
open Go.RowKit
open Go.ChangeMaps (setBlock)
attribute [local go_sem ↓] Go.wp_at_zero Go.wp_at_succ
set_option linter.unusedSimpArgs false
set_option linter.unusedVariables false

abbrev tSt : TypeId := 66
/-- a store, as it is told -/
structure StC where
  verb : ByteArray
  key : ByteArray
  data : ByteArray
  flags : UInt32
  exp : Int
  cas : UInt64
  quiet : Bool
abbrev stc (c : StC) : Array Value := #[.string c.verb, .string c.key, .string c.data, .int .u32 c.flags.toNat, .int .i64 c.exp, .int .u64 c.cas.toNat, .bool c.quiet]
def sSet : ByteArray := ⟨#[115, 101, 116]⟩
def sStored : ByteArray := ⟨#[83, 84, 79, 82, 69, 68]⟩
/-- what a command tells and leaves: one line -/
def LineR (w w' : World) (m M : Nat) (v : Value) (P : ByteArray → Its → Prop) : Prop := ∃ g txt es', v = .slice (some ⟨g, 0, none⟩) 1 1 ∧ Blk w' g tAns (ansc txt) ∧ w.heap.size ≤ g ∧ Mp w' m M es' ∧ P txt es'
theorem str_ne (a : ByteArray) (l : List UInt8) (h : ¬ a = ⟨l.toArray⟩) : (a.toList == l) = false := by
  have := str_eq a ⟨l.toArray⟩
  rw [decide_eq_false h, ByteArray.toList_eq (bs := ⟨l.toArray⟩)] at this
  exact this
theorem tm_exp (x : Item) : tmOk x.exp.toInt := ⟨x.exp.le_toInt, by have := x.exp.toInt_lt; omega⟩
/-- what a store tells and leaves, if it is a set -/
def StP (es : Its) (c : StC) (v : UInt64) (txt : ByteArray) (es' : Its) : Prop := es'.length ≤ es.length + 1 ∧ (c.verb = sSet → txt = sStored ∧ ∃ t, (c.exp = 0 → t = 0) ∧ es' = aset es c.key { key := c.key, val := c.data, flags := c.flags, exp := Int64.ofInt t, ver := v })
section
variable {w w' : World} {m M : Nat} {es : Its}
theorem mset_raw (h : Mp w m M es) (hmM : m ≠ M) (key val : ByteArray) (flags : UInt32) (t q : Int) (ht : tmOk t) (hq : ∃ u : UInt64, q = (u.toNat : Int)) (v : UInt64) (text : ByteArray) (hk : key.size ≤ 250) (hv : val.size ≤ 1024) :
    Calls Tryd.prog 26 #[.pointer (some ⟨m, 0, none⟩), .agg #[.string key, .string val, .int .u32 flags.toNat, .int .i64 t, .int .u64 q], .int .u64 v.toNat, .string text] w fun e w' => ∃ u, e = .returned u ∧ LineR w w' m M u (fun txt es' => txt = text ∧ es' = aset es key { key := key, val := val, flags := flags, exp := Int64.ofInt t, ver := v }) ∧ Chg (fun k => k = M) w w' := by
  obtain ⟨u, rfl⟩ := hq
  have e : (Int64.ofInt t).toInt = t := Int64.toInt_ofInt_of_le ht.1 (by have := ht.2; omega)
  have := mset_calls h hmM ({ key := key, val := val, flags := flags, exp := Int64.ofInt t, ver := u } : Item) v text ⟨hk, hv⟩
  rw [show itemV ({ key := key, val := val, flags := flags, exp := Int64.ofInt t, ver := u } : Item) = .agg #[.string key, .string val, .int .u32 flags.toNat, .int .i64 t, .int .u64 u.toNat] from by show Value.agg #[.string key, .string val, .int .u32 flags.toNat, .int .i64 (Int64.ofInt t).toInt, .int .u64 u.toNat] = _; rw [e]] at this
  refine this.mono ?_
  rintro e w' ⟨⟨g, rfl, hb, hg⟩, hm, hc⟩
  exact ⟨_, rfl, ⟨g, text, _, rfl, hb, hg, hm, rfl, rfl⟩, hc⟩
theorem mline_raw (h : Mp w m M es) (text : ByteArray) :
    Calls Tryd.prog 19 #[.string text] w fun e w' => ∃ u, e = .returned u ∧ LineR w w' m M u (fun txt es' => txt = text ∧ es' = es) ∧ Chg (fun k => k = M) w w' := by
  refine (mline_calls text w).mono ?_
  rintro e w' ⟨g, rfl, hb, hg, hc⟩
  exact ⟨_, rfl, ⟨g, text, es, rfl, hb, hg, h.chgNo hc, rfl, rfl⟩, hc.mono (fun _ _ h => h.elim)⟩
theorem LineR.lift {P Q : ByteArray → Its → Prop} {w0 : World} {u : Value} (h : LineR w w' m M u P) (hs : w0.heap.size ≤ w.heap.size) (hpq : ∀ t e, P t e → Q t e) : LineR w0 w' m M u Q := by
  obtain ⟨g, txt, es', h1, h2, h3, h4, h5⟩ := h
  exact ⟨g, txt, es', h1, h2, Nat.le_trans hs h3, h4, hpq _ _ h5⟩
set_option maxRecDepth 100000 in
set_option maxHeartbeats 8000000 in
theorem mstore_calls (h : Mp w m M es) (hmM : m ≠ M) (c : StC) (he : tmOk c.exp) (hk : c.key.size ≤ 250) (hd : c.data.size ≤ 1024) (now : Int) (hn : tmOk now) (v : UInt64) :
    Calls Tryd.prog 23 #[.pointer (some ⟨m, 0, none⟩), .agg (stc c), .int .i64 now, .int .u64 v.toNat] w fun e w' => (∃ u, e = .returned u ∧ LineR w w' m M u (StP es c v)) ∧ Chg (fun k => k = M) w w' := by
  have c0 := h.box.cell 0
  simp at c0
  have hlt := h.box.lt
  have hMlt := h.map.lt
  have HG := fun W => Lib.hid (fun hc : Chg No w W => mget_calls (h.chgNo hc) c.key now)
  have HT := fun W => Lib.hid (time_calls c.exp now he hn W)
  have HM := Lib.hid h
  have hok : (mget es c.key now).isSome = true → ((mget es c.key now).getD Item.zero).val.size ≤ 1024 := by
    intro h1
    obtain ⟨x, hx⟩ := Option.isSome_iff_exists.1 h1
    rw [hx]
    exact (mget_ok h hx).1.2.2
  obtain ⟨wx, hwx⟩ : ∃ wx, wx = (mget es c.key now).getD Item.zero := ⟨_, rfl⟩
  obtain ⟨th, hth⟩ : ∃ th, th = (mget es c.key now).isSome := ⟨_, rfl⟩
  simp only [← hwx, ← hth] at HG hok
  have HOK := Lib.hid hok
  have HSZ := Lib.hid (And.intro hk (And.intro hd he))
  clear h hok hwx hth hk hd he
  obtain ⟨Q, hQ⟩ : ∃ Q, Q = StP es c v := ⟨_, rfl⟩
  rw [← hQ]
  have HQ := Lib.hid hQ
  clear hQ
  obtain ⟨verb, key, data, flags, exp, cas, quiet⟩ := c
  simp only [stc] at *
  go_enter Tryd.func23, Tryd.ntmps23
  go_wp2_with fail
  refine ((HG _).out ((Chg.refl No w).alloc _)).mono ?_
  rintro e w1 ⟨rfl, hc1⟩
  have hb1 := ((Blk.new w tSt #[.string verb, .string key, .string data, .int .u32 flags.toNat, .int .i64 exp, .int .u64 cas.toNat, .bool quiet]).chg hc1 (fun h => h))
  have hb2 := hb1.alloc (.cells #[.string wx.key, .string wx.val, .int .u32 wx.flags.toNat, .int .i64 wx.exp.toInt, .int .u64 wx.ver.toNat] tItem)
  have b1 := hb2.cell 1
  have b2 := hb2.cell 2
  have b3 := hb2.cell 3
  have b4 := hb2.cell 4
  simp only [List.getElem?_toArray, List.getElem?_cons_zero, List.getElem?_cons_succ] at b1 b2 b3 b4
  have hbl := hb2.lt
  have HB2 := Lib.hid hb2
  have HC1 : Hid (Chg No w w1) := ((Chg.refl No w).alloc _).trans hc1
  clear HG hc1 hb1 hb2
  go_wp2_with fail
  go_region_held3 (fun W => W.cell? ⟨w.heap.size, 1, none⟩ = some (.string key) ∧ W.cell? ⟨w.heap.size, 2, none⟩ = some (.string data) ∧ W.cell? ⟨w.heap.size, 3, none⟩ = some (.int .u32 flags.toNat) ∧ W.cell? ⟨w.heap.size, 4, none⟩ = some (.int .i64 exp)) (first | go_keep)
    ((go_at_call 25
      refine (HT _).out.mono ?_
      rintro e w3 ⟨⟨t, ht, ht0, rfl⟩, rfl⟩))
  all_goals
    have HTT := Lib.hid (And.intro ht ht0)
    clear b1 b2 b3 b4 hbl ht ht0
    have hbx := ((Blk.new w1 tItem #[.string wx.key, .string wx.val, .int .u32 wx.flags.toNat, .int .i64 wx.exp.toInt, .int .u64 wx.ver.toNat]).alloc (.cells #[.string key, .string data, .int .u32 flags.toNat, .int .i64 t, .int .u64 0] tItem)).drew
    have hbn := (blk_second w1 (.cells #[.string wx.key, .string wx.val, .int .u32 wx.flags.toNat, .int .i64 wx.exp.toInt, .int .u64 wx.ver.toNat] tItem) tItem #[.string key, .string data, .int .u32 flags.toNat, .int .i64 t, .int .u64 0]).drew
    have hbs := (HB2.out.alloc (.cells #[.string key, .string data, .int .u32 flags.toNat, .int .i64 t, .int .u64 0] tItem)).drew
    have hcw : Chg No w ((w1.alloc (.cells #[.string wx.key, .string wx.val, .int .u32 wx.flags.toNat, .int .i64 wx.exp.toInt, .int .u64 wx.ver.toNat] tItem)).alloc (.cells #[.string key, .string data, .int .u32 flags.toNat, .int .i64 t, .int .u64 0] tItem)).drew := ((HC1.out.alloc _).alloc _).drew
    obtain ⟨W, hW⟩ : ∃ W, W = ((w1.alloc (.cells #[.string wx.key, .string wx.val, .int .u32 wx.flags.toNat, .int .i64 wx.exp.toInt, .int .u64 wx.ver.toNat] tItem)).alloc (.cells #[.string key, .string data, .int .u32 flags.toNat, .int .i64 t, .int .u64 0] tItem)).drew := ⟨_, rfl⟩
    rw [← hW] at hbx hbn hbs hcw ⊢
    have HCW := Lib.hid hcw
    have HMW := Lib.hid (HM.out.chgNo hcw)
    have HBX := Lib.hid hbx
    have HBN := Lib.hid hbn
    have HBS := Lib.hid hbs
    clear hW hbx hbn hbs hcw c0 HB2 hMlt hlt
    have s0 := HBS.out.cell 0
    have s2 := HBS.out.cell 2
    have s5 := HBS.out.cell 5
    have n0 := HBN.out.cell 0
    have n1 := HBN.out.cell 1
    have n2 := HBN.out.cell 2
    have n3 := HBN.out.cell 3
    have n4 := HBN.out.cell 4
    have x4 := HBX.out.cell 4
    simp only [List.getElem?_toArray, List.getElem?_cons_zero, List.getElem?_cons_succ] at s0 s2 s5 n0 n1 n2 n3 n4 x4
    by_cases hv : verb = sSet
    · obtain rfl : verb = ⟨#[115, 101, 116]⟩ := hv
      go_wp2_with fail
      refine (mset_raw HMW.out hmM key data flags t 0 HTT.out.1 ⟨0, rfl⟩ v _ HSZ.out.1 HSZ.out.2.1).mono ?_
      rintro e w5 ⟨u, rfl, hl, hc5⟩
      have HR := Lib.hid (hl.lift (w0 := w) HCW.out.size (Q := Q) (fun _ _ h8 => by rw [HQ.out]; exact ⟨by rw [h8.2]; exact aset_len _ _ _, fun _ => ⟨h8.1, t, HTT.out.2, h8.2⟩⟩))
      have HC5 : Hid (Chg (fun k => k = M) w w5) := (HCW.out.mono (fun _ _ h => h.elim)).trans hc5
      clear hl hc5
      go_wp2_with fail
      go_ret
      exact ⟨⟨u, rfl, HR.out⟩, HC5.out⟩
    have HQN : Hid (∀ (t : ByteArray) (e : Its), e.length ≤ es.length + 1 → Q t e) := by rw [HQ.out]; exact fun _ _ h8 => ⟨h8, fun h9 => absurd h9 hv⟩
    clear hv
    by_cases hap : verb = ⟨#[97, 112, 112, 101, 110, 100]⟩
    · subst hap
      cases th with
      | false =>
        go_wp2_with fail
        refine (mline_raw HMW.out _).mono ?_
        rintro e w5 ⟨u, rfl, hl, hc5⟩
        have HR := Lib.hid (hl.lift (w0 := w) HCW.out.size (Q := Q) (fun t e h8 => HQN.out t e (by rw [h8.2]; exact Nat.le_succ _)))
        have HC5 : Hid (Chg (fun k => k = M) w w5) := (HCW.out.mono (fun _ _ h => h.elim)).trans hc5
        clear hl hc5
        go_wp2_with fail
        go_ret
        exact ⟨⟨u, rfl, HR.out⟩, HC5.out⟩
      | true =>
        go_wp2_with fail
        clear s0 s2 s5 n0 n1 n2 n3 n4 x4
        have s0 := HBS.out.drew.cell 0
        have s2 := HBS.out.drew.cell 2
        have n0 := HBN.out.drew.cell 0
        have n1 := HBN.out.drew.cell 1
        have n2 := HBN.out.drew.cell 2
        have n3 := HBN.out.drew.cell 3
        have n4 := HBN.out.drew.cell 4
        have f2 := HBN.out.drew.frozen 2
        have f3 := HBN.out.drew.frozen 3
        have x1 := HBX.out.drew.cell 1
        have x2 := HBX.out.drew.cell 2
        have x3 := HBX.out.drew.cell 3
        simp only [List.getElem?_toArray, List.getElem?_cons_zero, List.getElem?_cons_succ] at s0 s2 n0 n1 n2 n3 n4 x1 x2 x3
        have p3 := (HBN.out.set_ 2 (.int .u32 wx.flags.toNat)).drew.cell 3
        have g3 := (HBN.out.set_ 2 (.int .u32 wx.flags.toNat)).drew.frozen 3
        have p2 := (HBN.out.set_ 3 (.int .i64 wx.exp.toInt)).drew.cell 2
        have g2 := (HBN.out.set_ 3 (.int .i64 wx.exp.toInt)).drew.frozen 2
        have hne : w1.heap.size ≠ (⟨w1.heap.size + 1, 2, none⟩ : Addr).block := by show w1.heap.size ≠ w1.heap.size + 1; omega
        have q3 := (HBX.out.far hne (.int .u32 wx.flags.toNat)).drew.cell 3
        have q2 := (HBX.out.far (p := ⟨w1.heap.size + 1, 3, none⟩) hne (.int .i64 wx.exp.toInt)).drew.cell 2
        simp only [List.setIfInBounds_toArray, List.set_cons_zero, List.set_cons_succ, List.getElem?_toArray, List.getElem?_cons_zero, List.getElem?_cons_succ] at p2 p3 q2 q3
        go_region
        all_goals
          have hb5 := ((HBN.out.set_ 2 (.int .u32 wx.flags.toNat)).set_ 3 (.int .i64 wx.exp.toInt)).drew
          have hx5 := ((HBX.out.far hne (.int .u32 wx.flags.toNat)).far (p := ⟨w1.heap.size + 1, 3, none⟩) hne (.int .i64 wx.exp.toInt)).drew
          have hne2 : w.heap.size ≠ (⟨w1.heap.size + 1, 2, none⟩ : Addr).block := by have := HC1.out.size; show w.heap.size ≠ w1.heap.size + 1; omega
          have hs5 := ((HBS.out.far hne2 (.int .u32 wx.flags.toNat)).far (p := ⟨w1.heap.size + 1, 3, none⟩) hne2 (.int .i64 wx.exp.toInt)).drew
          have HN1 : Hid (w.heap.size ≤ (⟨w1.heap.size + 1, 1, none⟩ : Addr).block) := by have := HC1.out.size; show w.heap.size ≤ w1.heap.size + 1; omega
          have hc5 := ((HCW.out.setCell (p := ⟨w1.heap.size + 1, 2, none⟩) (.inr HN1.out) (.int .u32 wx.flags.toNat)).setCell (p := ⟨w1.heap.size + 1, 3, none⟩) (.inr HN1.out) (.int .i64 wx.exp.toInt)).drew
          obtain ⟨W5, hW5⟩ : ∃ W5, W5 = ((W.setCell ⟨w1.heap.size + 1, 2, none⟩ (.int .u32 wx.flags.toNat)).setCell ⟨w1.heap.size + 1, 3, none⟩ (.int .i64 wx.exp.toInt)).drew := ⟨_, rfl⟩
          have hc5 : Chg No w W5 := by rw [hW5]; exact hc5
          rw [← hW5] at hb5 hx5 hs5 ⊢
          clear hW5 s0 s2 n0 n1 n2 n3 n4 f2 f3 x1 x2 x3 p3 g3 p2 g2 q3 q2
          simp only [List.setIfInBounds_toArray, List.set_cons_zero, List.set_cons_succ] at hb5
          have HCA : ∀ v1, Hid (Chg No w (W5.setCell ⟨w1.heap.size + 1, 1, none⟩ v1)) := fun v1 => hc5.setCell (.inr HN1.out) _
          have HCB : ∀ v1 v2, Hid (Chg No w ((W5.setCell ⟨w1.heap.size + 1, 1, none⟩ v1).setCell ⟨w1.heap.size + 1, 1, none⟩ v2)) := fun v1 v2 => ((hc5.setCell (.inr HN1.out) _).setCell (.inr HN1.out) _)
          have s0 := hs5.cell 0
          have s2 := hs5.cell 2
          have n0 := hb5.cell 0
          have n1 := hb5.cell 1
          have n2 := hb5.cell 2
          have n3 := hb5.cell 3
          have n4 := hb5.cell 4
          have f1 := hb5.frozen 1
          have x1 := hx5.cell 1
          simp only [List.getElem?_toArray, List.getElem?_cons_zero, List.getElem?_cons_succ] at s0 s2 n0 n1 n2 n3 n4 x1
          clear hb5 hx5 hs5 hc5 hne hne2
          have hz0 : wx.val.size ≤ 1024 := by first | exact HOK.out trivial | exact HOK.out rfl | exact HOK.out
          have hz1 : ¬ 9223372036854775807 < wx.val.size + data.size := by have := HSZ.out.2.1; omega
          have hz2 : ¬ 9223372036854775807 < data.size + wx.val.size := by omega
          clear hz0
          go_wp2_with fail
          all_goals first
            | (go_at_call 19
               refine (mline_raw (Lib.hid (HM.out.chgNo (HCA _).out)).out _).mono ?_
               rintro e w5 ⟨u, rfl, hl, hc5⟩
               have HR := Lib.hid (hl.lift (w0 := w) (HCA _).out.size (Q := Q) (fun t e h8 => HQN.out t e (by rw [h8.2]; exact Nat.le_succ _)))
               have HC5 : Hid (Chg (fun k => k = M) w w5) := ((HCA _).out.mono (fun _ _ h => h.elim)).trans hc5
               clear hl hc5
               go_wp2_with fail
               go_ret
               exact ⟨⟨u, rfl, HR.out⟩, HC5.out⟩
               )
            | (go_at_call 26
               rename_i hsz
               have hsz2 : (wx.val ++ data : ByteArray).size ≤ 1024 := by rw [ByteArray.size_append]; omega
               refine (mset_raw (Lib.hid (HM.out.chgNo (HCA _).out)).out hmM key (wx.val ++ data) wx.flags wx.exp.toInt 0 (tm_exp wx) ⟨0, rfl⟩ v _ HSZ.out.1 hsz2).mono ?_
               rintro e w5 ⟨u, rfl, hl, hc5⟩
               have HR := Lib.hid (hl.lift (w0 := w) (HCA _).out.size (Q := Q) (fun t e h8 => HQN.out t e (by rw [h8.2]; exact aset_len _ _ _)))
               have HC5 : Hid (Chg (fun k => k = M) w w5) := ((HCA _).out.mono (fun _ _ h => h.elim)).trans hc5
               clear hl hc5
               go_wp2_with fail
               go_ret
               exact ⟨⟨u, rfl, HR.out⟩, HC5.out⟩
               )
    by_cases hpp : verb = ⟨#[112, 114, 101, 112, 101, 110, 100]⟩
    · subst hpp
      cases th with
      | false =>
        go_wp2_with fail
        refine (mline_raw HMW.out _).mono ?_
        rintro e w5 ⟨u, rfl, hl, hc5⟩
        have HR := Lib.hid (hl.lift (w0 := w) HCW.out.size (Q := Q) (fun t e h8 => HQN.out t e (by rw [h8.2]; exact Nat.le_succ _)))
        have HC5 : Hid (Chg (fun k => k = M) w w5) := (HCW.out.mono (fun _ _ h => h.elim)).trans hc5
        clear hl hc5
        go_wp2_with fail
        go_ret
        exact ⟨⟨u, rfl, HR.out⟩, HC5.out⟩
      | true =>
        go_wp2_with fail
        clear s0 s2 s5 n0 n1 n2 n3 n4 x4
        have s0 := HBS.out.drew.cell 0
        have s2 := HBS.out.drew.cell 2
        have n0 := HBN.out.drew.cell 0
        have n1 := HBN.out.drew.cell 1
        have n2 := HBN.out.drew.cell 2
        have n3 := HBN.out.drew.cell 3
        have n4 := HBN.out.drew.cell 4
        have f2 := HBN.out.drew.frozen 2
        have f3 := HBN.out.drew.frozen 3
        have x1 := HBX.out.drew.cell 1
        have x2 := HBX.out.drew.cell 2
        have x3 := HBX.out.drew.cell 3
        simp only [List.getElem?_toArray, List.getElem?_cons_zero, List.getElem?_cons_succ] at s0 s2 n0 n1 n2 n3 n4 x1 x2 x3
        have p3 := (HBN.out.set_ 2 (.int .u32 wx.flags.toNat)).drew.cell 3
        have g3 := (HBN.out.set_ 2 (.int .u32 wx.flags.toNat)).drew.frozen 3
        have p2 := (HBN.out.set_ 3 (.int .i64 wx.exp.toInt)).drew.cell 2
        have g2 := (HBN.out.set_ 3 (.int .i64 wx.exp.toInt)).drew.frozen 2
        have hne : w1.heap.size ≠ (⟨w1.heap.size + 1, 2, none⟩ : Addr).block := by show w1.heap.size ≠ w1.heap.size + 1; omega
        have q3 := (HBX.out.far hne (.int .u32 wx.flags.toNat)).drew.cell 3
        have q2 := (HBX.out.far (p := ⟨w1.heap.size + 1, 3, none⟩) hne (.int .i64 wx.exp.toInt)).drew.cell 2
        simp only [List.setIfInBounds_toArray, List.set_cons_zero, List.set_cons_succ, List.getElem?_toArray, List.getElem?_cons_zero, List.getElem?_cons_succ] at p2 p3 q2 q3
        go_region
        all_goals
          have hb5 := ((HBN.out.set_ 2 (.int .u32 wx.flags.toNat)).set_ 3 (.int .i64 wx.exp.toInt)).drew
          have hx5 := ((HBX.out.far hne (.int .u32 wx.flags.toNat)).far (p := ⟨w1.heap.size + 1, 3, none⟩) hne (.int .i64 wx.exp.toInt)).drew
          have hne2 : w.heap.size ≠ (⟨w1.heap.size + 1, 2, none⟩ : Addr).block := by have := HC1.out.size; show w.heap.size ≠ w1.heap.size + 1; omega
          have hs5 := ((HBS.out.far hne2 (.int .u32 wx.flags.toNat)).far (p := ⟨w1.heap.size + 1, 3, none⟩) hne2 (.int .i64 wx.exp.toInt)).drew
          have HN1 : Hid (w.heap.size ≤ (⟨w1.heap.size + 1, 1, none⟩ : Addr).block) := by have := HC1.out.size; show w.heap.size ≤ w1.heap.size + 1; omega
          have hc5 := ((HCW.out.setCell (p := ⟨w1.heap.size + 1, 2, none⟩) (.inr HN1.out) (.int .u32 wx.flags.toNat)).setCell (p := ⟨w1.heap.size + 1, 3, none⟩) (.inr HN1.out) (.int .i64 wx.exp.toInt)).drew
          obtain ⟨W5, hW5⟩ : ∃ W5, W5 = ((W.setCell ⟨w1.heap.size + 1, 2, none⟩ (.int .u32 wx.flags.toNat)).setCell ⟨w1.heap.size + 1, 3, none⟩ (.int .i64 wx.exp.toInt)).drew := ⟨_, rfl⟩
          have hc5 : Chg No w W5 := by rw [hW5]; exact hc5
          rw [← hW5] at hb5 hx5 hs5 ⊢
          clear hW5 s0 s2 n0 n1 n2 n3 n4 f2 f3 x1 x2 x3 p3 g3 p2 g2 q3 q2
          simp only [List.setIfInBounds_toArray, List.set_cons_zero, List.set_cons_succ] at hb5
          have HCA : ∀ v1, Hid (Chg No w (W5.setCell ⟨w1.heap.size + 1, 1, none⟩ v1)) := fun v1 => hc5.setCell (.inr HN1.out) _
          have HCB : ∀ v1 v2, Hid (Chg No w ((W5.setCell ⟨w1.heap.size + 1, 1, none⟩ v1).setCell ⟨w1.heap.size + 1, 1, none⟩ v2)) := fun v1 v2 => ((hc5.setCell (.inr HN1.out) _).setCell (.inr HN1.out) _)
          have s0 := hs5.cell 0
          have s2 := hs5.cell 2
          have n0 := hb5.cell 0
          have n1 := hb5.cell 1
          have n2 := hb5.cell 2
          have n3 := hb5.cell 3
          have n4 := hb5.cell 4
          have f1 := hb5.frozen 1
          have x1 := hx5.cell 1
          simp only [List.getElem?_toArray, List.getElem?_cons_zero, List.getElem?_cons_succ] at s0 s2 n0 n1 n2 n3 n4 x1
          clear hb5 hx5 hs5 hc5 hne hne2
          have hz0 : wx.val.size ≤ 1024 := by first | exact HOK.out trivial | exact HOK.out rfl | exact HOK.out
          have hz1 : ¬ 9223372036854775807 < wx.val.size + data.size := by have := HSZ.out.2.1; omega
          have hz2 : ¬ 9223372036854775807 < data.size + wx.val.size := by omega
          clear hz0
          go_wp2_with fail
          all_goals first
            | (go_at_call 19
               refine (mline_raw (Lib.hid (HM.out.chgNo (HCB _ _).out)).out _).mono ?_
               rintro e w5 ⟨u, rfl, hl, hc5⟩
               have HR := Lib.hid (hl.lift (w0 := w) (HCB _ _).out.size (Q := Q) (fun t e h8 => HQN.out t e (by rw [h8.2]; exact Nat.le_succ _)))
               have HC5 : Hid (Chg (fun k => k = M) w w5) := ((HCB _ _).out.mono (fun _ _ h => h.elim)).trans hc5
               clear hl hc5
               go_wp2_with fail
               go_ret
               exact ⟨⟨u, rfl, HR.out⟩, HC5.out⟩
               )
            | (go_at_call 26
               rename_i hsz
               have hsz2 : (data ++ wx.val : ByteArray).size ≤ 1024 := by rw [ByteArray.size_append]; omega
               refine (mset_raw (Lib.hid (HM.out.chgNo (HCB _ _).out)).out hmM key (data ++ wx.val) wx.flags wx.exp.toInt 0 (tm_exp wx) ⟨0, rfl⟩ v _ HSZ.out.1 hsz2).mono ?_
               rintro e w5 ⟨u, rfl, hl, hc5⟩
               have HR := Lib.hid (hl.lift (w0 := w) (HCB _ _).out.size (Q := Q) (fun t e h8 => HQN.out t e (by rw [h8.2]; exact aset_len _ _ _)))
               have HC5 : Hid (Chg (fun k => k = M) w w5) := ((HCB _ _).out.mono (fun _ _ h => h.elim)).trans hc5
               clear hl hc5
               go_wp2_with fail
               go_ret
               exact ⟨⟨u, rfl, HR.out⟩, HC5.out⟩
               )
    have ha1 := str_ne verb [97, 112, 112, 101, 110, 100] hap
    have ha2 := str_ne verb [112, 114, 101, 112, 101, 110, 100] hpp
    go_wp2_with fail
    all_goals first
      | (go_at_call 19
         refine (mline_raw HMW.out _).mono ?_
         rintro e w5 ⟨u, rfl, hl, hc5⟩
         have HR := Lib.hid (hl.lift (w0 := w) HCW.out.size (Q := Q) (fun t e h8 => HQN.out t e (by rw [h8.2]; exact Nat.le_succ _)))
         have HC5 : Hid (Chg (fun k => k = M) w w5) := (HCW.out.mono (fun _ _ h => h.elim)).trans hc5
         clear hl hc5
         go_wp2_with fail
         go_ret
         exact ⟨⟨u, rfl, HR.out⟩, HC5.out⟩
         )
      | (go_at_call 26
         refine (mset_raw HMW.out hmM key data flags t 0 HTT.out.1 ⟨0, rfl⟩ v _ HSZ.out.1 HSZ.out.2.1).mono ?_
         rintro e w5 ⟨u, rfl, hl, hc5⟩
         have HR := Lib.hid (hl.lift (w0 := w) HCW.out.size (Q := Q) (fun t e h8 => HQN.out t e (by rw [h8.2]; exact aset_len _ _ _)))
         have HC5 : Hid (Chg (fun k => k = M) w w5) := (HCW.out.mono (fun _ _ h => h.elim)).trans hc5
         clear hl hc5
         go_wp2_with fail
         go_ret
         exact ⟨⟨u, rfl, HR.out⟩, HC5.out⟩
         )
end
end Go.Proofs.YtedkoplgfidjlaaDoor
