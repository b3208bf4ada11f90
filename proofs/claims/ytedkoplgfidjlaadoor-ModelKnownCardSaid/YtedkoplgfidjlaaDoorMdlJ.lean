/- The model's Do, walked. -/
import Derived.Test.YtedkoplgfidjlaaDoorMdlI
namespace Go.Proofs.YtedkoplgfidjlaaDoor
open Go.RowKit
open Go.ChangeMaps (setBlock)
attribute [local go_sem ↓] Go.wp_at_zero Go.wp_at_succ
set_option linter.unusedSimpArgs false
set_option linter.unusedVariables false

def sEnd : ByteArray := ⟨#[69, 78, 68]⟩
def sError : ByteArray := ⟨#[69, 82, 82, 79, 82]⟩
/-- an answer of one line -/
def LineU (w : World) (u : Value) (txt : ByteArray) : Prop := ∃ A cp, u = .slice A 1 cp ∧ Rd w tAns A 7 (ansc txt).toList
def DoX (w : World) (ev : Ev) (es es' : Its) (now : Int) (v : UInt64) (u : Value) : Prop :=
  match ev with
  | .store c => c.verb = sSet ∧ c.key = kA ∧ c.data.size ≤ 1024 → LineU w u sStored ∧ ∃ t, (c.exp = 0 → t = 0) ∧ es' = aset es c.key { key := c.key, val := c.data, flags := c.flags, exp := Int64.ofInt t, ver := v }
  | .get ks _ _ _ => ks = [kA] ∧ mget es kA now = none → LineU w u sEnd ∧ es' = es
  | .none => LineU w u sError ∧ es' = es
  | .word t => t = sQuit → u = .slice none 0 0 ∧ es' = es
  | _ => True
/-- what Do tells and leaves -/
def DoR (w : World) (m M : Nat) (es : Its) (ev : Ev) (now : Int) (v : UInt64) (u : Value) : Prop := ∃ es', Mp w m M es' ∧ es'.length ≤ es.length + 64 ∧ DoX w ev es es' now v u
/-- times are int64s -/
def EvOk : Ev → Prop
  | .get _ _ _ exp => tmOk exp
  | .store c => tmOk c.exp
  | .touch _ exp _ => tmOk exp
  | _ => True
theorem evOk_of (c : CmdP) (h : tmOk c.exp) : EvOk (evOf c) := by
  unfold evOf
  split
  · exact h
  split
  · exact h
  split
  · exact trivial
  split
  · exact h
  split
  · exact trivial
  split
  · exact trivial
  split
  · exact trivial
  split
  · exact trivial
  · exact trivial
abbrev ansz : Value := .agg #[.bool false, .string ⟨#[]⟩, .string ⟨#[]⟩, .string ⟨#[]⟩, .int .u32 0, .int .u64 0, .bool false]
theorem ti_ans : TI Tryd.prog tAns ansz 7 80 := (by kernel_rfl : (Tryd.prog.info? tAns).map (fun i => (i.zero, i.size, i.bytes)) = some (some ansz, 7, 80))
theorem own_cell {w : World} {base e size n : Nat} {v : Value} {xs : List Value} (h : w.ownsRow base e size v n xs) {k : Nat} (hk : v.ownBlock = some k) : ∃ cs fz, w.heap[k]? = some (.cells cs e fz) := by
  rcases h.2 with ⟨rfl, _⟩ | ⟨g, cap, cur, rfl, _, hh, _⟩
  · simp [Value.ownBlock] at hk
  · have : g = k := by simpa [Value.ownBlock] using hk
    subst this
    exact ⟨_, _, hh⟩
/-- between two keys of a Get -/
structure GI (w0 wr : World) (m M : Nat) (es : Its) (ks : List ByteArray) (now : Int) (v : Value) (cnt : Nat) : Prop where
  own : ∃ xs, wr.ownsRow w0.heap.size tAns 7 v cnt xs ∧ (ks = [kA] ∧ mget es kA now = none → cnt = 0 ∧ xs = [])
  mp : ∃ es', Mp wr m M es' ∧ es'.length ≤ es.length + cnt ∧ (ks = [kA] ∧ mget es kA now = none → es' = es)
  chg : Chg (fun k => k = M) w0 wr
def NoneX (ks : List ByteArray) (es : Its) (now : Int) (cnt : Nat) (xs : List Value) (j : Nat) (news : List Value) (es' : Its) : Prop := ks = [kA] ∧ mget es kA now = none → cnt = 0 ∧ xs = [] ∧ j = 0 ∧ news = [] ∧ es' = es
theorem GI.app {w0 w5 w8 : World} {m M : Nat} {es es' : Its} {ks : List ByteArray} {now : Int} {v v8 : Value} {cnt j : Nat} {xs news : List Value} (ho : w5.ownsRow w0.heap.size tAns 7 v cnt xs) (hm : Mp w5 m M es') (hc : Chg (fun k => k = M) w0 w5) (h0 : M < w0.heap.size)
    (ho8 : w8.ownsRow w0.heap.size tAns 7 v8 (cnt + j) (xs ++ news)) (hg8 : w5.grownBy w8 v.ownBlock)
    (hlen : es'.length ≤ es.length + (cnt + j)) (hx : NoneX ks es now cnt xs j news es') : GI w0 w8 m M es ks now v8 (cnt + j) ∧ Mp w8 m M es' ∧ Chg (fun k => k = M) w0 w8 := by
  have hc8 : Chg (fun k => v.ownBlock = some k) w5 w8 := (Chg.refl _ _).grown hg8 (fun _ h => .inl h)
  have hcW : Chg (fun k => k = M) w0 w8 := hc.grown hg8 (fun k hk => .inr (own_new ho k hk))
  have hm8 : Mp w8 m M es' := hm.chg hc8 (own_other ho hm.box (by decide)) (fun hk => by have := own_new ho _ hk; omega)
  exact ⟨⟨⟨_, ho8, fun h => ⟨by have := hx h; omega, by have := hx h; rw [this.2.1, this.2.2.2.1]; rfl⟩⟩, ⟨es', hm8, hlen, fun h => (hx h).2.2.2.2⟩, hcW⟩, hm8, hcW⟩
section
variable {w w' : World} {m M : Nat} {es : Its} {ev : Ev} {now : Int} {v : UInt64}
theorem Chg.andM {a b c : World} (h : Chg No a b) (h2 : Chg (fun k => k = M) b c) : Chg (fun k => k = M) a c := (h.mono (fun _ _ h => h.elim)).trans h2
theorem LineU.of {u : Value} {P : ByteArray → Its → Prop} (h : LineR w w' m M u P) : ∃ txt es', LineU w' u txt ∧ Mp w' m M es' ∧ P txt es' := by
  obtain ⟨g, txt, es', rfl, hb, _, hm, hp⟩ := h
  exact ⟨txt, es', ⟨_, _, rfl, by have := Rd.ofBlk hb (k := 7) (by simp [ansc]); simpa [ansc] using this⟩, hm, hp⟩
theorem DoR.of {u : Value} {P : ByteArray → Its → Prop} (h : LineR w w' m M u P) (hb : ∀ txt es', P txt es' → es'.length ≤ es.length + 64) (hp : ∀ txt es', P txt es' → LineU w' u txt → DoX w' ev es es' now v u) : DoR w' m M es ev now v u := by
  obtain ⟨txt, es', hl, hm, h2⟩ := LineU.of h
  exact ⟨es', hm, hb _ _ h2, hp _ _ h2 hl⟩
set_option maxRecDepth 100000 in
set_option maxHeartbeats 8000000 in
theorem do_calls (hg : Glob w) (h : Mp w m M es) (hmM : m ≠ M) (c : CmdP) {A : Option Addr} {n : Nat} (hk : KeysAt w A n c.ks) (cp : Nat) (he : tmOk c.exp) (now : Int) (hn : tmOk now) (v : UInt64) :
    Calls Tryd.prog 9 #[.pointer (some ⟨m, 0, none⟩), .agg (cmdc c A n cp), .int .i64 now, .int .u64 v.toNat] w fun e w' => (∃ u, e = .returned u ∧ DoR w' m M es (evOf c) now v u) ∧ Chg (fun k => k = M) w w' := by
  have HO := fun W => Lib.hid (fun hc : Chg No w W => of_calls c (hk.chgNo hc) cp)
  have HGD := fun W => Lib.hid (fun hc : Chg No w W => good_calls (hg.chgNo hc) c (hk.chgNo hc) cp)
  have HGL := Lib.hid hg
  have HM := Lib.hid h
  have HN := Lib.hid hn
  have HEV := Lib.hid (evOk_of c he)
  have c0 := h.box.cell 0
  simp at c0
  have hlt := h.box.lt
  have hMlt := h.map.lt
  obtain ⟨ev, hev⟩ : ∃ ev, ev = evOf c := ⟨_, rfl⟩
  simp only [← hev] at HO HGD HEV ⊢
  clear hev h hg hk hn he
  obtain ⟨what, verb, ks, data, flags, exp, cas, by_, wc, wt, dn, qt⟩ := c
  simp only [cmdc] at HO HGD ⊢
  go_enter Tryd.func9, Tryd.ntmps9
  cases ev with
  | get ks2 wc2 wt2 exp2 =>
    go_wp2_with fail
    refine ((HO _).out (by (repeat (first | (with_reducible exact Chg.refl _ _) | (with_reducible assumption) | (with_reducible refine Chg.drewN ?_ _) | (with_reducible refine Chg.drew ?_) | (with_reducible refine Chg.alloc ?_ _) | (with_reducible refine Chg.setCell ?_ (by first | (left; simp [DevH.foot]; done) | (right; simp; done) | (right; simp; omega)) _))))).mono ?_
    rintro e w1 ⟨⟨v0, rfl, hv⟩, hc1⟩
    have HC1 : Hid (Chg No w w1) := Chg.trans (by (repeat (first | (with_reducible exact Chg.refl _ _) | (with_reducible assumption) | (with_reducible refine Chg.drewN ?_ _) | (with_reducible refine Chg.drew ?_) | (with_reducible refine Chg.alloc ?_ _) | (with_reducible refine Chg.setCell ?_ (by first | (left; simp [DevH.foot]; done) | (right; simp; done) | (right; simp; omega)) _)))) hc1
    simp only [EvAt] at hv
    have HBX : Hid (Blk w1 w.heap.size tCmd #[.string what, .string verb, .slice A n cp, .string data, .int .u32 flags.toNat, .int .i64 exp, .int .u64 cas.toNat, .int .u64 by_.toNat, .bool wc, .bool wt, .bool dn, .bool qt]) := ((Blk.new w tCmd _).chg hc1 (fun h => h) : Blk w1 w.heap.size tCmd _)
    have b0 := HBX.out.cell 0
    have b1 := HBX.out.cell 1
    have b2 := HBX.out.cell 2
    have b3 := HBX.out.cell 3
    have b4 := HBX.out.cell 4
    have b5 := HBX.out.cell 5
    have b6 := HBX.out.cell 6
    have b7 := HBX.out.cell 7
    have b8 := HBX.out.cell 8
    have b9 := HBX.out.cell 9
    have b10 := HBX.out.cell 10
    have b11 := HBX.out.cell 11
    simp only [List.getElem?_toArray, List.getElem?_cons_zero, List.getElem?_cons_succ] at b0 b1 b2 b3 b4 b5 b6 b7 b8 b9 b10 b11
    have hbl := HBX.out.lt
    clear hc1 HO
    obtain ⟨A2, n2, cp2, rfl, hk2⟩ := hv
    have HKW := Lib.hid hk2
    clear hk2
    go_wp2_with fail
    refine ((HGD _).out (HC1.out.trans (by (repeat (first | (with_reducible exact Chg.refl _ _) | (with_reducible assumption) | (with_reducible refine Chg.drewN ?_ _) | (with_reducible refine Chg.drew ?_) | (with_reducible refine Chg.alloc ?_ _) | (with_reducible refine Chg.setCell ?_ (by first | (left; simp [DevH.foot]; done) | (right; simp; done) | (right; simp; omega)) _)))))).mono ?_
    rintro e w2 ⟨⟨b, hb, rfl⟩, hc2⟩
    have HC2 : Hid (Chg No w w2) := (HC1.out.trans (by (repeat (first | (with_reducible exact Chg.refl _ _) | (with_reducible assumption) | (with_reducible refine Chg.drewN ?_ _) | (with_reducible refine Chg.drew ?_) | (with_reducible refine Chg.alloc ?_ _) | (with_reducible refine Chg.setCell ?_ (by first | (left; simp [DevH.foot]; done) | (right; simp; done) | (right; simp; omega)) _))))).trans hc2
    have HC12 : Hid (Chg No w1 w2) := Chg.trans (by (repeat (first | (with_reducible exact Chg.refl _ _) | (with_reducible assumption) | (with_reducible refine Chg.drewN ?_ _) | (with_reducible refine Chg.drew ?_) | (with_reducible refine Chg.alloc ?_ _) | (with_reducible refine Chg.setCell ?_ (by first | (left; simp [DevH.foot]; done) | (right; simp; done) | (right; simp; omega)) _)))) hc2
    have HGB := Lib.hid hb
    clear b0 b1 b2 b3 b4 b5 b6 b7 b8 b9 b10 b11 hbl HBX HC1 HGD hc2 hb
    cases b with
    | false =>
      have HPX : Hid (∀ txt es', txt = sError ∧ es' = es → ∀ W u, LineU W u txt → DoX W (.get ks2 wc2 wt2 exp2) es es' now v u) := fun txt es' hte W u hl => (fun h1 => by cases HGB.out.2 h1.1)
      go_wp2_with fail
      refine (mline_raw (HM.out.chgNo (HC2.out.trans (by (repeat (first | (with_reducible exact Chg.refl _ _) | (with_reducible assumption) | (with_reducible refine Chg.drewN ?_ _) | (with_reducible refine Chg.drew ?_) | (with_reducible refine Chg.alloc ?_ _) | (with_reducible refine Chg.setCell ?_ (by first | (left; simp [DevH.foot]; done) | (right; simp; done) | (right; simp; omega)) _)))))) _).mono ?_
      rintro e w5 ⟨u, rfl, hl, hc5⟩
      have HR := Lib.hid (DoR.of (v := v) (now := now) (es := es) (ev := (.get ks2 wc2 wt2 exp2)) hl (fun _ _ h8 => by rw [h8.2]; omega) (fun txt es' hte hlu => HPX.out txt es' hte _ _ hlu))
      have HC5 : Hid (Chg (fun k => k = M) w w5) := ((HC2.out.trans (by (repeat (first | (with_reducible exact Chg.refl _ _) | (with_reducible assumption) | (with_reducible refine Chg.drewN ?_ _) | (with_reducible refine Chg.drew ?_) | (with_reducible refine Chg.alloc ?_ _) | (with_reducible refine Chg.setCell ?_ (by first | (left; simp [DevH.foot]; done) | (right; simp; done) | (right; simp; omega)) _))))) : Chg No w _).andM hc5
      clear hl hc5
      go_wp2_with fail
      go_ret
      exact ⟨⟨u, rfl, HR.out⟩, HC5.out⟩
    | true =>
      have h64 : n2 ≤ 64 := by have := HGB.out.1 rfl; have := HKW.out.2.1; omega
      have HKW := Lib.hid (HKW.out.chgNo HC12.out)
      have hM2 : M < w2.heap.size := Nat.lt_of_lt_of_le hMlt HC2.out.size
      have hm2 : m < w2.heap.size := Nat.lt_of_lt_of_le hlt HC2.out.size
      clear HC12 HGB c0 hlt
      go_wp2_with fail
      obtain ⟨w3, hw3⟩ : ∃ w3, w3 = w2.alloc (.cells #[.slice A2 n2 cp2, .bool wc2, .bool wt2, .int .i64 exp2] 62) := ⟨_, rfl⟩
      have HC3 : Hid (Chg No w w3) := by show Chg _ _ _; rw [hw3]; exact HC2.out.alloc _
      have HB3 : Hid (Blk w3 w2.heap.size 62 #[.slice A2 n2 cp2, .bool wc2, .bool wt2, .int .i64 exp2]) := by show Blk _ _ _ _; rw [hw3]; exact Blk.new _ _ _
      have HK3 : Hid (KeysAt w3 A2 n2 ks2) := by show KeysAt _ _ _ _; rw [hw3]; exact HKW.out.chgNo ((Chg.refl No w2).alloc _)
      have hM3 : M < w3.heap.size := Nat.lt_of_lt_of_le hMlt HC3.out.size
      rw [← hw3]
      have HM3 := Lib.hid (HM.out.chgNo HC3.out)
      have hzs : w2.heap.size < w3.heap.size := HB3.out.lt
      clear hw3 HKW HC2 HM
      go_loopg [13, 48] n2 (fun g v13 v48 wr => ∃ k cnt : Nat, v48 = .int .i64 k ∧ k ≤ n2 ∧ n2 - k = g ∧ cnt ≤ k ∧ Hid (GI w3 wr m M es ks2 now v13 cnt))
      case atStart => exact ⟨0, 0, rfl, by omega, by omega, by omega, ⟨[], World.ownsRow_nil _ _ _ _, fun _ => ⟨rfl, rfl⟩⟩, ⟨es, HM3.out, by omega, fun _ => rfl⟩, Chg.refl _ _⟩
      case round =>
        obtain ⟨k, cnt, rfl, hk, hgg, hcnt, HG⟩ := hrel
        obtain ⟨⟨xs, hown, hx1⟩, ⟨es4, hm4, hl4, hx2⟩, hc4⟩ := HG.out
        have HL4 := Lib.hid hl4
        have HOW := Lib.hid hown
        have HX := Lib.hid (And.intro hx1 hx2)
        have HM4 := Lib.hid hm4
        have HC4 := Lib.hid hc4
        have hbz : w3.heap.size ≤ wr.heap.size := hc4.size
        clear hown hx1 hx2 hm4 hc4 HG hl4
        by_cases hkn : k < n2
        · obtain ⟨x, hx⟩ : ∃ x, ks2[k]? = some x := ⟨_, List.getElem?_eq_getElem (by have := HK3.out.2.1; omega)⟩
          have hk4 := HK3.out.chg HC4.out (fun g cur fz hg hgM => by
            subst hgM
            exact HM3.out.map.ne_blk hg rfl)
          obtain ⟨g, off, rfl, hgl, hc⟩ := hk4.1.at_ hkn
          have HNUM : Hid (cnt ≤ k ∧ k < n2 ∧ n2 ≤ 64) := ⟨hcnt, hkn, h64⟩
          have cx := hc k (.string x) (by rw [List.getElem?_map, hx]; rfl)
          have HB4 := Lib.hid (HB3.out.chg HC4.out (by omega))
          have t0 := HB4.out.cell 0
          have t1 := HB4.out.cell 1
          have t2 := HB4.out.cell 2
          have t3 := HB4.out.cell 3
          simp only [List.getElem?_toArray, List.getElem?_cons_zero, List.getElem?_cons_succ] at t0 t1 t2 t3
          have HXK : Hid (ks2 = [kA] → x = kA) := fun h => by
            rw [h] at hx
            cases k with
            | zero => simpa using hx.symm
            | succ k => simp at hx
          have HONE := Lib.hid (mone_calls HM4.out hmM (some ⟨g, off, none⟩) n2 cp2 wc2 wt2 exp2 HEV.out x now HN.out v)
          clear hk4 hc hx
          go_wp2_with fail
          refine HONE.out.mono ?_
          rintro e w5 ⟨⟨u, rfl, hor⟩, hc5⟩
          have HC5 := Lib.hid (HC4.out.trans hc5)
          have HO5 := Lib.hid (own_chg HOW.out hc5 (fun k hk hkM => by
            have := own_new HOW.out k hk
            omega))
          have hbz5 : w3.heap.size ≤ w5.heap.size := HC5.out.size
          rcases hor with ⟨hno, rfl, hm5⟩ | ⟨y, es5, hyes, ⟨gg, cs, rfl, hbc, hcs, hone, hgg2⟩, hm5, hwt, hl5⟩
          · have HXN : Hid (NoneX ks2 es now cnt xs 0 [] es4) := fun h => ⟨(HX.out.1 h).1, (HX.out.1 h).2, rfl, rfl, HX.out.2 h⟩
            have HM5 := Lib.hid hm5
            have HAPP := Lib.hid (fun v8 w8 ho8 hg8 => (Lib.hid (GI.app (j := 0) (news := []) (v8 := v8) (w8 := w8) HO5.out HM5.out HC5.out hM3 ho8 hg8 HL4.out HXN.out).1 : Hid (GI w3 w8 m M es ks2 now v8 (cnt + 0))))
            clear hno hm5 hc5 HX HOW HC4 HM4 HB4 HONE t0 t1 t2 t3 cx
            go_wp2_with (first
              | (at_builtin; go_loud (have e1 := HNUM.out); go_loud (have e2 : cnt + 0 ≤ maxLen := by (simp only [maxLen]; first | omega | fail "D")); go_loud (have e3 : (cnt + 0) * 80 ≤ 140737488355328 := by (first | omega | fail "C")); go_loud (first | have e7 := HO5.out | fail "E"); go_loud (first | have e5 := hbz5 | fail "F"); go_loud (have e6 := @Rd.nil w5 tAns none; have e4 : ∀ u ∈ ([] : List Value), u.oneCell' = true := (fun u hu => absurd hu (List.not_mem_nil))); go_loud (refine wpList_app _ rfl (.tmp 52) (.tmp 58) tAnss rfl tAns Tryd.underlying25 ti_ans rfl (by first | decide | fail "A") w3.heap.size _ cnt xs rfl e7 tAns none 0 0 [] rfl e6 e4 e2 e3 e5 ?_); intro v8 w8 ho8 hg8 hb8; go_loud (have HA := (HAPP.out _ _ ho8 hg8)); clear ho8 hg8 hb8))
            go_roundg (n2 - (k + 1))
            case measure => have := HNUM.out; omega
            case rel => exact ⟨k + 1, cnt + 0, by go_num, by have := HNUM.out; omega, by have := HNUM.out; omega, by have := HNUM.out; omega, HA.out⟩
          · have HXN : Hid (NoneX ks2 es now cnt xs 1 cs.toList es5) := fun h => by
              have e1 := HXK.out h.1
              have e2 := HX.out.2 h
              rw [e1, e2, h.2] at hyes
              cases hyes
            have HM5 := Lib.hid hm5
            have HRD := Lib.hid (show Rd w5 tAns (some ⟨gg, 0, none⟩) (1 * 7) cs.toList from by have := Rd.ofBlk hbc (k := 7) (by omega); rwa [List.take_of_length_le (by simp; omega)] at this)
            have HON := Lib.hid hone
            have HAPP := Lib.hid (fun v8 w8 ho8 hg8 => (Lib.hid (GI.app (j := 1) (news := cs.toList) (v8 := v8) (w8 := w8) HO5.out HM5.out HC5.out hM3 ho8 hg8 (by have := HL4.out; omega) HXN.out).1 : Hid (GI w3 w8 m M es ks2 now v8 (cnt + 1))))
            clear hyes hm5 hc5 hbc hcs hone hgg2 hwt HX HOW HC4 HM4 HB4 HONE t0 t1 t2 t3 cx
            go_wp2_with (first
              | (at_builtin; go_loud (have e1 := HNUM.out; have e2 : cnt + 1 ≤ maxLen := by (simp only [maxLen]; omega)); go_loud (have e3 : (cnt + 1) * 80 ≤ 140737488355328 := by (have := HNUM.out; omega)); go_loud (have e7 := HO5.out; have e5 := hbz5; have e6 := HRD.out; have e4 := HON.out); go_loud (refine wpList_app _ rfl (.tmp 52) (.tmp 58) tAnss rfl tAns Tryd.underlying25 ti_ans rfl (by decide) w3.heap.size _ cnt xs rfl e7 tAns _ 1 1 cs.toList rfl e6 e4 e2 e3 e5 ?_); intro v8 w8 ho8 hg8 hb8; go_loud (have HA := (HAPP.out _ _ ho8 hg8)); clear ho8 hg8 hb8))
            go_roundg (n2 - (k + 1))
            case measure => have := HNUM.out; omega
            case rel => exact ⟨k + 1, cnt + 1, by go_num, by have := HNUM.out; omega, by have := HNUM.out; omega, by have := HNUM.out; omega, HA.out⟩
        · obtain rfl : k = n2 := by omega
          have HL := fun W => Lib.hid (aline_calls ⟨#[69, 78, 68]⟩ W)
          go_wp2_with fail
          refine (HL _).out.mono ?_
          rintro e w5 ⟨rfl, hc5⟩
          have HC5 := Lib.hid (HC4.out.trans (hc5.mono (fun _ _ h => h.elim)))
          have HO5 := Lib.hid (own_chg HOW.out hc5 (fun _ _ h => h))
          have HM5 := Lib.hid (HM4.out.chgNo hc5)
          have hbz5 : w3.heap.size ≤ w5.heap.size := HC5.out.size
          clear hc5 HL HOW HM4 HC4
          have HRD := Lib.hid (show Rd (w5.alloc (.cells (ansc ⟨#[69, 78, 68]⟩) tAns)) tAns (some ⟨w5.heap.size, 0, none⟩) (1 * 7) (ansc ⟨#[69, 78, 68]⟩).toList from by have := Rd.ofBlk (Blk.new w5 tAns (ansc ⟨#[69, 78, 68]⟩)) (k := 7) (by decide); rwa [List.take_of_length_le (by decide)] at this)
          have HC6 : Hid (Chg (fun k => k = M) w3 (w5.alloc (.cells (ansc ⟨#[69, 78, 68]⟩) tAns))) := HC5.out.alloc _
          have HO6 := Lib.hid (own_chg HO5.out ((Chg.refl No w5).alloc (.cells (ansc ⟨#[69, 78, 68]⟩) tAns)) (fun _ _ h => h))
          have HM6 := Lib.hid (HM5.out.chgNo ((Chg.refl No w5).alloc (.cells (ansc ⟨#[69, 78, 68]⟩) tAns)))
          have hbz6 : w3.heap.size ≤ (w5.alloc (.cells (ansc ⟨#[69, 78, 68]⟩) tAns)).heap.size := HC6.out.size
          clear HC5 HO5 HM5
          go_wp2_with (first
            | (at_builtin; go_loud (refine wpList_app _ rfl (.tmp 61) (.tmp 63) tAnss rfl tAns Tryd.underlying25 ti_ans rfl (by omega) w3.heap.size _ cnt xs rfl HO6.out tAns _ 1 1 (ansc ⟨#[69, 78, 68]⟩).toList rfl HRD.out (by decide) (by simp only [maxLen]; omega) (by omega) hbz6 ?_; intro v8 w8 ho8 hg8 hb8; have HO8 := Lib.hid ho8; have HG8 := Lib.hid hg8; clear ho8 hg8 hb8)))
          go_ret
          have hc8 := Chg.grown (S := fun k => Value.ownBlock _ = some k) (Chg.refl _ _) HG8.out (fun _ h => .inl h)
          have hm8 : Mp w8 m M es4 := HM6.out.chg hc8 (own_other HO6.out HM6.out.box (by decide)) (fun hk => by have := own_new HO6.out _ hk; omega)
          refine ⟨⟨_, rfl, es4, hm8, by have := HL4.out; omega, fun h => ⟨?_, HX.out.2 h⟩⟩, HC3.out.andM (HC6.out.grown HG8.out (fun k hk => .inr (own_new HO6.out k hk)))⟩
          obtain ⟨h1, h2⟩ := HX.out.1 h
          obtain ⟨A8, c8, h3, _, h4⟩ := own_slice HO8.out
          subst h1 h2
          exact ⟨A8, c8, h3, h4⟩
  | store c2 =>
    have HS := fun W => Lib.hid (fun (hc : Chg No w W) h1 h2 => mstore_calls (HM.out.chgNo hc) hmM c2 HEV.out h1 h2 now HN.out v)
    go_wp2_with fail
    refine ((HO _).out (by (repeat (first | (with_reducible exact Chg.refl _ _) | (with_reducible assumption) | (with_reducible refine Chg.drewN ?_ _) | (with_reducible refine Chg.drew ?_) | (with_reducible refine Chg.alloc ?_ _) | (with_reducible refine Chg.setCell ?_ (by first | (left; simp [DevH.foot]; done) | (right; simp; done) | (right; simp; omega)) _))))).mono ?_
    rintro e w1 ⟨⟨v0, rfl, hv⟩, hc1⟩
    have HC1 : Hid (Chg No w w1) := Chg.trans (by (repeat (first | (with_reducible exact Chg.refl _ _) | (with_reducible assumption) | (with_reducible refine Chg.drewN ?_ _) | (with_reducible refine Chg.drew ?_) | (with_reducible refine Chg.alloc ?_ _) | (with_reducible refine Chg.setCell ?_ (by first | (left; simp [DevH.foot]; done) | (right; simp; done) | (right; simp; omega)) _)))) hc1
    simp only [EvAt] at hv
    have HBX : Hid (Blk w1 w.heap.size tCmd #[.string what, .string verb, .slice A n cp, .string data, .int .u32 flags.toNat, .int .i64 exp, .int .u64 cas.toNat, .int .u64 by_.toNat, .bool wc, .bool wt, .bool dn, .bool qt]) := ((Blk.new w tCmd _).chg hc1 (fun h => h) : Blk w1 w.heap.size tCmd _)
    have b0 := HBX.out.cell 0
    have b1 := HBX.out.cell 1
    have b2 := HBX.out.cell 2
    have b3 := HBX.out.cell 3
    have b4 := HBX.out.cell 4
    have b5 := HBX.out.cell 5
    have b6 := HBX.out.cell 6
    have b7 := HBX.out.cell 7
    have b8 := HBX.out.cell 8
    have b9 := HBX.out.cell 9
    have b10 := HBX.out.cell 10
    have b11 := HBX.out.cell 11
    simp only [List.getElem?_toArray, List.getElem?_cons_zero, List.getElem?_cons_succ] at b0 b1 b2 b3 b4 b5 b6 b7 b8 b9 b10 b11
    have hbl := HBX.out.lt
    clear hc1 HO
    obtain ⟨verb2, key2, data2, flags2, exp2, cas2, quiet2⟩ := c2
    simp only [stc] at hv HS
    subst hv
    go_wp2_with fail
    refine ((HGD _).out (HC1.out.trans (by (repeat (first | (with_reducible exact Chg.refl _ _) | (with_reducible assumption) | (with_reducible refine Chg.drewN ?_ _) | (with_reducible refine Chg.drew ?_) | (with_reducible refine Chg.alloc ?_ _) | (with_reducible refine Chg.setCell ?_ (by first | (left; simp [DevH.foot]; done) | (right; simp; done) | (right; simp; omega)) _)))))).mono ?_
    rintro e w2 ⟨⟨b, hb, rfl⟩, hc2⟩
    have HC2 : Hid (Chg No w w2) := (HC1.out.trans (by (repeat (first | (with_reducible exact Chg.refl _ _) | (with_reducible assumption) | (with_reducible refine Chg.drewN ?_ _) | (with_reducible refine Chg.drew ?_) | (with_reducible refine Chg.alloc ?_ _) | (with_reducible refine Chg.setCell ?_ (by first | (left; simp [DevH.foot]; done) | (right; simp; done) | (right; simp; omega)) _))))).trans hc2
    have HC12 : Hid (Chg No w1 w2) := Chg.trans (by (repeat (first | (with_reducible exact Chg.refl _ _) | (with_reducible assumption) | (with_reducible refine Chg.drewN ?_ _) | (with_reducible refine Chg.drew ?_) | (with_reducible refine Chg.alloc ?_ _) | (with_reducible refine Chg.setCell ?_ (by first | (left; simp [DevH.foot]; done) | (right; simp; done) | (right; simp; omega)) _)))) hc2
    have HGB := Lib.hid hb
    clear b0 b1 b2 b3 b4 b5 b6 b7 b8 b9 b10 b11 hbl HBX HC1 HGD hc2 hb
    cases b with
    | false =>
      have HPX : Hid (∀ txt es', txt = sError ∧ es' = es → ∀ W u, LineU W u txt → DoX W (.store ⟨verb2, key2, data2, flags2, exp2, cas2, quiet2⟩) es es' now v u) := fun txt es' hte W u hl => (fun h1 => by cases HGB.out.2 h1)
      go_wp2_with fail
      refine (mline_raw (HM.out.chgNo (HC2.out.trans (by (repeat (first | (with_reducible exact Chg.refl _ _) | (with_reducible assumption) | (with_reducible refine Chg.drewN ?_ _) | (with_reducible refine Chg.drew ?_) | (with_reducible refine Chg.alloc ?_ _) | (with_reducible refine Chg.setCell ?_ (by first | (left; simp [DevH.foot]; done) | (right; simp; done) | (right; simp; omega)) _)))))) _).mono ?_
      rintro e w5 ⟨u, rfl, hl, hc5⟩
      have HR := Lib.hid (DoR.of (v := v) (now := now) (es := es) (ev := (.store ⟨verb2, key2, data2, flags2, exp2, cas2, quiet2⟩)) hl (fun _ _ h8 => by rw [h8.2]; omega) (fun txt es' hte hlu => HPX.out txt es' hte _ _ hlu))
      have HC5 : Hid (Chg (fun k => k = M) w w5) := ((HC2.out.trans (by (repeat (first | (with_reducible exact Chg.refl _ _) | (with_reducible assumption) | (with_reducible refine Chg.drewN ?_ _) | (with_reducible refine Chg.drew ?_) | (with_reducible refine Chg.alloc ?_ _) | (with_reducible refine Chg.setCell ?_ (by first | (left; simp [DevH.foot]; done) | (right; simp; done) | (right; simp; omega)) _))))) : Chg No w _).andM hc5
      clear hl hc5
      go_wp2_with fail
      go_ret
      exact ⟨⟨u, rfl, HR.out⟩, HC5.out⟩
    | true =>
      have HS := fun W => Lib.hid (fun (hc : Chg No w W) => (HS W).out hc (HGB.out.1 rfl).1 (HGB.out.1 rfl).2)
      go_wp2_with fail
      refine ((HS _).out (HC2.out.trans (by (repeat (first | (with_reducible exact Chg.refl _ _) | (with_reducible assumption) | (with_reducible refine Chg.drewN ?_ _) | (with_reducible refine Chg.drew ?_) | (with_reducible refine Chg.alloc ?_ _) | (with_reducible refine Chg.setCell ?_ (by first | (left; simp [DevH.foot]; done) | (right; simp; done) | (right; simp; omega)) _)))))).mono ?_
      rintro e w5 ⟨⟨u, rfl, hl⟩, hc5⟩
      have HR := Lib.hid (DoR.of (v := v) (now := now) (es := es) (ev := .store ⟨verb2, key2, data2, flags2, exp2, cas2, quiet2⟩) hl (fun _ _ hp => by have := hp.1; omega) (fun txt es' hp hl => fun h1 => by
        obtain ⟨rfl, t, ht⟩ := hp.2 h1.1
        exact ⟨hl, t, ht⟩))
      have HC5 : Hid (Chg (fun k => k = M) w w5) := (HC2.out.trans (by (repeat (first | (with_reducible exact Chg.refl _ _) | (with_reducible assumption) | (with_reducible refine Chg.drewN ?_ _) | (with_reducible refine Chg.drew ?_) | (with_reducible refine Chg.alloc ?_ _) | (with_reducible refine Chg.setCell ?_ (by first | (left; simp [DevH.foot]; done) | (right; simp; done) | (right; simp; omega)) _))) : Chg No w2 _)).andM hc5
      clear hl hc5
      go_wp2_with fail
      go_ret
      exact ⟨⟨u, rfl, HR.out⟩, HC5.out⟩
  | arith c2 =>
    have HS := fun W => Lib.hid (fun (hc : Chg No w W) => marith_calls (HGL.out.chgNo hc) (HM.out.chgNo hc) hmM c2 now v)
    go_wp2_with fail
    refine ((HO _).out (by (repeat (first | (with_reducible exact Chg.refl _ _) | (with_reducible assumption) | (with_reducible refine Chg.drewN ?_ _) | (with_reducible refine Chg.drew ?_) | (with_reducible refine Chg.alloc ?_ _) | (with_reducible refine Chg.setCell ?_ (by first | (left; simp [DevH.foot]; done) | (right; simp; done) | (right; simp; omega)) _))))).mono ?_
    rintro e w1 ⟨⟨v0, rfl, hv⟩, hc1⟩
    have HC1 : Hid (Chg No w w1) := Chg.trans (by (repeat (first | (with_reducible exact Chg.refl _ _) | (with_reducible assumption) | (with_reducible refine Chg.drewN ?_ _) | (with_reducible refine Chg.drew ?_) | (with_reducible refine Chg.alloc ?_ _) | (with_reducible refine Chg.setCell ?_ (by first | (left; simp [DevH.foot]; done) | (right; simp; done) | (right; simp; omega)) _)))) hc1
    simp only [EvAt] at hv
    have HBX : Hid (Blk w1 w.heap.size tCmd #[.string what, .string verb, .slice A n cp, .string data, .int .u32 flags.toNat, .int .i64 exp, .int .u64 cas.toNat, .int .u64 by_.toNat, .bool wc, .bool wt, .bool dn, .bool qt]) := ((Blk.new w tCmd _).chg hc1 (fun h => h) : Blk w1 w.heap.size tCmd _)
    have b0 := HBX.out.cell 0
    have b1 := HBX.out.cell 1
    have b2 := HBX.out.cell 2
    have b3 := HBX.out.cell 3
    have b4 := HBX.out.cell 4
    have b5 := HBX.out.cell 5
    have b6 := HBX.out.cell 6
    have b7 := HBX.out.cell 7
    have b8 := HBX.out.cell 8
    have b9 := HBX.out.cell 9
    have b10 := HBX.out.cell 10
    have b11 := HBX.out.cell 11
    simp only [List.getElem?_toArray, List.getElem?_cons_zero, List.getElem?_cons_succ] at b0 b1 b2 b3 b4 b5 b6 b7 b8 b9 b10 b11
    have hbl := HBX.out.lt
    clear hc1 HO
    obtain ⟨key2, by2, down2, quiet2⟩ := c2
    simp only [arc] at hv HS
    subst hv
    go_wp2_with fail
    refine ((HGD _).out (HC1.out.trans (by (repeat (first | (with_reducible exact Chg.refl _ _) | (with_reducible assumption) | (with_reducible refine Chg.drewN ?_ _) | (with_reducible refine Chg.drew ?_) | (with_reducible refine Chg.alloc ?_ _) | (with_reducible refine Chg.setCell ?_ (by first | (left; simp [DevH.foot]; done) | (right; simp; done) | (right; simp; omega)) _)))))).mono ?_
    rintro e w2 ⟨⟨b, hb, rfl⟩, hc2⟩
    have HC2 : Hid (Chg No w w2) := (HC1.out.trans (by (repeat (first | (with_reducible exact Chg.refl _ _) | (with_reducible assumption) | (with_reducible refine Chg.drewN ?_ _) | (with_reducible refine Chg.drew ?_) | (with_reducible refine Chg.alloc ?_ _) | (with_reducible refine Chg.setCell ?_ (by first | (left; simp [DevH.foot]; done) | (right; simp; done) | (right; simp; omega)) _))))).trans hc2
    have HC12 : Hid (Chg No w1 w2) := Chg.trans (by (repeat (first | (with_reducible exact Chg.refl _ _) | (with_reducible assumption) | (with_reducible refine Chg.drewN ?_ _) | (with_reducible refine Chg.drew ?_) | (with_reducible refine Chg.alloc ?_ _) | (with_reducible refine Chg.setCell ?_ (by first | (left; simp [DevH.foot]; done) | (right; simp; done) | (right; simp; omega)) _)))) hc2
    have HGB := Lib.hid hb
    clear b0 b1 b2 b3 b4 b5 b6 b7 b8 b9 b10 b11 hbl HBX HC1 HGD hc2 hb
    cases b with
    | false =>
      have HPX : Hid (∀ txt es', txt = sError ∧ es' = es → ∀ W u, LineU W u txt → DoX W (.arith ⟨key2, by2, down2, quiet2⟩) es es' now v u) := fun txt es' hte W u hl => trivial
      go_wp2_with fail
      refine (mline_raw (HM.out.chgNo (HC2.out.trans (by (repeat (first | (with_reducible exact Chg.refl _ _) | (with_reducible assumption) | (with_reducible refine Chg.drewN ?_ _) | (with_reducible refine Chg.drew ?_) | (with_reducible refine Chg.alloc ?_ _) | (with_reducible refine Chg.setCell ?_ (by first | (left; simp [DevH.foot]; done) | (right; simp; done) | (right; simp; omega)) _)))))) _).mono ?_
      rintro e w5 ⟨u, rfl, hl, hc5⟩
      have HR := Lib.hid (DoR.of (v := v) (now := now) (es := es) (ev := (.arith ⟨key2, by2, down2, quiet2⟩)) hl (fun _ _ h8 => by rw [h8.2]; omega) (fun txt es' hte hlu => HPX.out txt es' hte _ _ hlu))
      have HC5 : Hid (Chg (fun k => k = M) w w5) := ((HC2.out.trans (by (repeat (first | (with_reducible exact Chg.refl _ _) | (with_reducible assumption) | (with_reducible refine Chg.drewN ?_ _) | (with_reducible refine Chg.drew ?_) | (with_reducible refine Chg.alloc ?_ _) | (with_reducible refine Chg.setCell ?_ (by first | (left; simp [DevH.foot]; done) | (right; simp; done) | (right; simp; omega)) _))))) : Chg No w _).andM hc5
      clear hl hc5
      go_wp2_with fail
      go_ret
      exact ⟨⟨u, rfl, HR.out⟩, HC5.out⟩
    | true =>
      go_wp2_with fail
      refine ((HS _).out (HC2.out.trans (by (repeat (first | (with_reducible exact Chg.refl _ _) | (with_reducible assumption) | (with_reducible refine Chg.drewN ?_ _) | (with_reducible refine Chg.drew ?_) | (with_reducible refine Chg.alloc ?_ _) | (with_reducible refine Chg.setCell ?_ (by first | (left; simp [DevH.foot]; done) | (right; simp; done) | (right; simp; omega)) _)))))).mono ?_
      rintro e w5 ⟨⟨u, rfl, hl⟩, hc5⟩
      have HR := Lib.hid (DoR.of (v := v) (now := now) (es := es) (ev := .arith ⟨key2, by2, down2, quiet2⟩) hl (fun _ _ hp => by omega) (fun txt es' hp hl => trivial))
      have HC5 : Hid (Chg (fun k => k = M) w w5) := (HC2.out.trans (by (repeat (first | (with_reducible exact Chg.refl _ _) | (with_reducible assumption) | (with_reducible refine Chg.drewN ?_ _) | (with_reducible refine Chg.drew ?_) | (with_reducible refine Chg.alloc ?_ _) | (with_reducible refine Chg.setCell ?_ (by first | (left; simp [DevH.foot]; done) | (right; simp; done) | (right; simp; omega)) _))) : Chg No w2 _)).andM hc5
      clear hl hc5
      go_wp2_with fail
      go_ret
      exact ⟨⟨u, rfl, HR.out⟩, HC5.out⟩
  | touch key exp2 q =>
    go_wp2_with fail
    refine ((HO _).out (by (repeat (first | (with_reducible exact Chg.refl _ _) | (with_reducible assumption) | (with_reducible refine Chg.drewN ?_ _) | (with_reducible refine Chg.drew ?_) | (with_reducible refine Chg.alloc ?_ _) | (with_reducible refine Chg.setCell ?_ (by first | (left; simp [DevH.foot]; done) | (right; simp; done) | (right; simp; omega)) _))))).mono ?_
    rintro e w1 ⟨⟨v0, rfl, hv⟩, hc1⟩
    have HC1 : Hid (Chg No w w1) := Chg.trans (by (repeat (first | (with_reducible exact Chg.refl _ _) | (with_reducible assumption) | (with_reducible refine Chg.drewN ?_ _) | (with_reducible refine Chg.drew ?_) | (with_reducible refine Chg.alloc ?_ _) | (with_reducible refine Chg.setCell ?_ (by first | (left; simp [DevH.foot]; done) | (right; simp; done) | (right; simp; omega)) _)))) hc1
    simp only [EvAt] at hv
    have HBX : Hid (Blk w1 w.heap.size tCmd #[.string what, .string verb, .slice A n cp, .string data, .int .u32 flags.toNat, .int .i64 exp, .int .u64 cas.toNat, .int .u64 by_.toNat, .bool wc, .bool wt, .bool dn, .bool qt]) := ((Blk.new w tCmd _).chg hc1 (fun h => h) : Blk w1 w.heap.size tCmd _)
    have b0 := HBX.out.cell 0
    have b1 := HBX.out.cell 1
    have b2 := HBX.out.cell 2
    have b3 := HBX.out.cell 3
    have b4 := HBX.out.cell 4
    have b5 := HBX.out.cell 5
    have b6 := HBX.out.cell 6
    have b7 := HBX.out.cell 7
    have b8 := HBX.out.cell 8
    have b9 := HBX.out.cell 9
    have b10 := HBX.out.cell 10
    have b11 := HBX.out.cell 11
    simp only [List.getElem?_toArray, List.getElem?_cons_zero, List.getElem?_cons_succ] at b0 b1 b2 b3 b4 b5 b6 b7 b8 b9 b10 b11
    have hbl := HBX.out.lt
    clear hc1 HO
    subst hv
    go_wp2_with fail
    refine ((HGD _).out (HC1.out.trans (by (repeat (first | (with_reducible exact Chg.refl _ _) | (with_reducible assumption) | (with_reducible refine Chg.drewN ?_ _) | (with_reducible refine Chg.drew ?_) | (with_reducible refine Chg.alloc ?_ _) | (with_reducible refine Chg.setCell ?_ (by first | (left; simp [DevH.foot]; done) | (right; simp; done) | (right; simp; omega)) _)))))).mono ?_
    rintro e w2 ⟨⟨b, hb, rfl⟩, hc2⟩
    have HC2 : Hid (Chg No w w2) := (HC1.out.trans (by (repeat (first | (with_reducible exact Chg.refl _ _) | (with_reducible assumption) | (with_reducible refine Chg.drewN ?_ _) | (with_reducible refine Chg.drew ?_) | (with_reducible refine Chg.alloc ?_ _) | (with_reducible refine Chg.setCell ?_ (by first | (left; simp [DevH.foot]; done) | (right; simp; done) | (right; simp; omega)) _))))).trans hc2
    have HC12 : Hid (Chg No w1 w2) := Chg.trans (by (repeat (first | (with_reducible exact Chg.refl _ _) | (with_reducible assumption) | (with_reducible refine Chg.drewN ?_ _) | (with_reducible refine Chg.drew ?_) | (with_reducible refine Chg.alloc ?_ _) | (with_reducible refine Chg.setCell ?_ (by first | (left; simp [DevH.foot]; done) | (right; simp; done) | (right; simp; omega)) _)))) hc2
    have HGB := Lib.hid hb
    clear b0 b1 b2 b3 b4 b5 b6 b7 b8 b9 b10 b11 hbl HBX HC1 HGD hc2 hb
    cases b with
    | false =>
      have HPX : Hid (∀ txt es', txt = sError ∧ es' = es → ∀ W u, LineU W u txt → DoX W (.touch key exp2 q) es es' now v u) := fun txt es' hte W u hl => trivial
      go_wp2_with fail
      refine (mline_raw (HM.out.chgNo (HC2.out.trans (by (repeat (first | (with_reducible exact Chg.refl _ _) | (with_reducible assumption) | (with_reducible refine Chg.drewN ?_ _) | (with_reducible refine Chg.drew ?_) | (with_reducible refine Chg.alloc ?_ _) | (with_reducible refine Chg.setCell ?_ (by first | (left; simp [DevH.foot]; done) | (right; simp; done) | (right; simp; omega)) _)))))) _).mono ?_
      rintro e w5 ⟨u, rfl, hl, hc5⟩
      have HR := Lib.hid (DoR.of (v := v) (now := now) (es := es) (ev := (.touch key exp2 q)) hl (fun _ _ h8 => by rw [h8.2]; omega) (fun txt es' hte hlu => HPX.out txt es' hte _ _ hlu))
      have HC5 : Hid (Chg (fun k => k = M) w w5) := ((HC2.out.trans (by (repeat (first | (with_reducible exact Chg.refl _ _) | (with_reducible assumption) | (with_reducible refine Chg.drewN ?_ _) | (with_reducible refine Chg.drew ?_) | (with_reducible refine Chg.alloc ?_ _) | (with_reducible refine Chg.setCell ?_ (by first | (left; simp [DevH.foot]; done) | (right; simp; done) | (right; simp; omega)) _))))) : Chg No w _).andM hc5
      clear hl hc5
      go_wp2_with fail
      go_ret
      exact ⟨⟨u, rfl, HR.out⟩, HC5.out⟩
    | true =>
      have HT := fun W => Lib.hid (time_calls exp2 now HEV.out HN.out W)
      have HG := fun W => Lib.hid (fun hc : Chg No w W => mget_calls (HM.out.chgNo hc) key now)
      have hok : (mget es key now).isSome = true → ((mget es key now).getD Item.zero).key.size ≤ 250 ∧ ((mget es key now).getD Item.zero).val.size ≤ 1024 := by
        intro h1
        obtain ⟨x, hx⟩ := Option.isSome_iff_exists.1 h1
        rw [hx]
        have h3 := (mget_ok HM.out hx)
        show x.key.size ≤ 250 ∧ x.val.size ≤ 1024
        exact ⟨by rw [h3.2]; exact h3.1.2.1, h3.1.2.2⟩
      obtain ⟨wx, hwx⟩ : ∃ wx, wx = (mget es key now).getD Item.zero := ⟨_, rfl⟩
      obtain ⟨th, hth⟩ : ∃ th, th = (mget es key now).isSome := ⟨_, rfl⟩
      simp only [← hwx, ← hth] at HG hok
      have HWX := Lib.hid hok
      clear hok hwx hth
      go_wp2_with fail
      refine ((HG _).out (HC2.out.trans (by (repeat (first | (with_reducible exact Chg.refl _ _) | (with_reducible assumption) | (with_reducible refine Chg.drewN ?_ _) | (with_reducible refine Chg.drew ?_) | (with_reducible refine Chg.alloc ?_ _) | (with_reducible refine Chg.setCell ?_ (by first | (left; simp [DevH.foot]; done) | (right; simp; done) | (right; simp; omega)) _)))))).mono ?_
      rintro e w3 ⟨rfl, hc3⟩
      have HBD := Lib.hid ((Blk.new w2 72 #[.string key, .int .i64 exp2, .bool q]).chg hc3 (fun h => h))
      have d0 := HBD.out.cell 0
      have d1 := HBD.out.cell 1
      simp only [List.getElem?_toArray, List.getElem?_cons_zero, List.getElem?_cons_succ] at d0 d1
      have hdl := HBD.out.lt
      have HC3 : Hid (Chg No w w3) := (HC2.out.trans (by (repeat (first | (with_reducible exact Chg.refl _ _) | (with_reducible assumption) | (with_reducible refine Chg.drewN ?_ _) | (with_reducible refine Chg.drew ?_) | (with_reducible refine Chg.alloc ?_ _) | (with_reducible refine Chg.setCell ?_ (by first | (left; simp [DevH.foot]; done) | (right; simp; done) | (right; simp; omega)) _))))).trans hc3
      clear HG hc3
      cases th with
      | false =>
        go_wp2_with fail
        refine (mline_raw (HM.out.chgNo (HC3.out.trans (by (repeat (first | (with_reducible exact Chg.refl _ _) | (with_reducible assumption) | (with_reducible refine Chg.drewN ?_ _) | (with_reducible refine Chg.drew ?_) | (with_reducible refine Chg.alloc ?_ _) | (with_reducible refine Chg.setCell ?_ (by first | (left; simp [DevH.foot]; done) | (right; simp; done) | (right; simp; omega)) _)))))) _).mono ?_
        rintro e w5 ⟨u, rfl, hl, hc5⟩
        have HR := Lib.hid (DoR.of (v := v) (now := now) (es := es) (ev := (.touch key exp2 q)) hl (fun _ _ h8 => by rw [h8.2]; omega) (fun _ _ _ _ => trivial))
        have HC5 : Hid (Chg (fun k => k = M) w w5) := ((HC3.out.trans (by (repeat (first | (with_reducible exact Chg.refl _ _) | (with_reducible assumption) | (with_reducible refine Chg.drewN ?_ _) | (with_reducible refine Chg.drew ?_) | (with_reducible refine Chg.alloc ?_ _) | (with_reducible refine Chg.setCell ?_ (by first | (left; simp [DevH.foot]; done) | (right; simp; done) | (right; simp; omega)) _))))) : Chg No w _).andM hc5
        clear hl hc5
        go_wp2_with fail
        go_ret
        exact ⟨⟨u, rfl, HR.out⟩, HC5.out⟩
      | true =>
        have HBX := Lib.hid (Blk.new w3 tItem #[.string wx.key, .string wx.val, .int .u32 wx.flags.toNat, .int .i64 wx.exp.toInt, .int .u64 wx.ver.toNat])
        go_wp2_with fail
        refine (HT _).out.mono ?_
        rintro e w4 ⟨⟨t, ht, _, rfl⟩, rfl⟩
        have HTT := Lib.hid ht
        clear ht HT
        have x0 := HBX.out.cell 0
        have x1 := HBX.out.cell 1
        have x2 := HBX.out.cell 2
        have x3 := HBX.out.cell 3
        have x4 := HBX.out.cell 4
        have g3 := HBX.out.frozen 3
        have y0 := (HBX.out.set_ 3 (.int .i64 t)).cell 0
        have y1 := (HBX.out.set_ 3 (.int .i64 t)).cell 1
        have y2 := (HBX.out.set_ 3 (.int .i64 t)).cell 2
        have y3 := (HBX.out.set_ 3 (.int .i64 t)).cell 3
        have y4 := (HBX.out.set_ 3 (.int .i64 t)).cell 4
        simp only [List.setIfInBounds_toArray, List.set_cons_zero, List.set_cons_succ, List.getElem?_toArray, List.getElem?_cons_zero, List.getElem?_cons_succ] at x0 x1 x2 x3 x4 y0 y1 y2 y3 y4
        have HCS : Hid (Chg No w (w3.alloc (.cells #[.string wx.key, .string wx.val, .int .u32 wx.flags.toNat, .int .i64 t, .int .u64 wx.ver.toNat] tItem))) := HC3.out.alloc _
        go_wp2_with fail
        refine (mset_raw (HM.out.chgNo HCS.out) hmM wx.key wx.val wx.flags t wx.ver.toNat HTT.out ⟨wx.ver, rfl⟩ v _ (HWX.out trivial).1 (HWX.out trivial).2).mono ?_
        rintro e w5 ⟨u, rfl, hl, hc5⟩
        have HR := Lib.hid (DoR.of (v := v) (now := now) (es := es) (ev := .touch key exp2 q) hl (fun _ _ h8 => by rw [h8.2]; exact Nat.le_trans (aset_len _ _ _) (by omega)) (fun _ _ _ _ => trivial))
        have HC5 : Hid (Chg (fun k => k = M) w w5) := HCS.out.andM hc5
        clear hl hc5
        go_wp2_with fail
        go_ret
        exact ⟨⟨u, rfl, HR.out⟩, HC5.out⟩
  | del key q =>
    go_wp2_with fail
    refine ((HO _).out (by (repeat (first | (with_reducible exact Chg.refl _ _) | (with_reducible assumption) | (with_reducible refine Chg.drewN ?_ _) | (with_reducible refine Chg.drew ?_) | (with_reducible refine Chg.alloc ?_ _) | (with_reducible refine Chg.setCell ?_ (by first | (left; simp [DevH.foot]; done) | (right; simp; done) | (right; simp; omega)) _))))).mono ?_
    rintro e w1 ⟨⟨v0, rfl, hv⟩, hc1⟩
    have HC1 : Hid (Chg No w w1) := Chg.trans (by (repeat (first | (with_reducible exact Chg.refl _ _) | (with_reducible assumption) | (with_reducible refine Chg.drewN ?_ _) | (with_reducible refine Chg.drew ?_) | (with_reducible refine Chg.alloc ?_ _) | (with_reducible refine Chg.setCell ?_ (by first | (left; simp [DevH.foot]; done) | (right; simp; done) | (right; simp; omega)) _)))) hc1
    simp only [EvAt] at hv
    have HBX : Hid (Blk w1 w.heap.size tCmd #[.string what, .string verb, .slice A n cp, .string data, .int .u32 flags.toNat, .int .i64 exp, .int .u64 cas.toNat, .int .u64 by_.toNat, .bool wc, .bool wt, .bool dn, .bool qt]) := ((Blk.new w tCmd _).chg hc1 (fun h => h) : Blk w1 w.heap.size tCmd _)
    have b0 := HBX.out.cell 0
    have b1 := HBX.out.cell 1
    have b2 := HBX.out.cell 2
    have b3 := HBX.out.cell 3
    have b4 := HBX.out.cell 4
    have b5 := HBX.out.cell 5
    have b6 := HBX.out.cell 6
    have b7 := HBX.out.cell 7
    have b8 := HBX.out.cell 8
    have b9 := HBX.out.cell 9
    have b10 := HBX.out.cell 10
    have b11 := HBX.out.cell 11
    simp only [List.getElem?_toArray, List.getElem?_cons_zero, List.getElem?_cons_succ] at b0 b1 b2 b3 b4 b5 b6 b7 b8 b9 b10 b11
    have hbl := HBX.out.lt
    clear hc1 HO
    subst hv
    go_wp2_with fail
    refine ((HGD _).out (HC1.out.trans (by (repeat (first | (with_reducible exact Chg.refl _ _) | (with_reducible assumption) | (with_reducible refine Chg.drewN ?_ _) | (with_reducible refine Chg.drew ?_) | (with_reducible refine Chg.alloc ?_ _) | (with_reducible refine Chg.setCell ?_ (by first | (left; simp [DevH.foot]; done) | (right; simp; done) | (right; simp; omega)) _)))))).mono ?_
    rintro e w2 ⟨⟨b, hb, rfl⟩, hc2⟩
    have HC2 : Hid (Chg No w w2) := (HC1.out.trans (by (repeat (first | (with_reducible exact Chg.refl _ _) | (with_reducible assumption) | (with_reducible refine Chg.drewN ?_ _) | (with_reducible refine Chg.drew ?_) | (with_reducible refine Chg.alloc ?_ _) | (with_reducible refine Chg.setCell ?_ (by first | (left; simp [DevH.foot]; done) | (right; simp; done) | (right; simp; omega)) _))))).trans hc2
    have HC12 : Hid (Chg No w1 w2) := Chg.trans (by (repeat (first | (with_reducible exact Chg.refl _ _) | (with_reducible assumption) | (with_reducible refine Chg.drewN ?_ _) | (with_reducible refine Chg.drew ?_) | (with_reducible refine Chg.alloc ?_ _) | (with_reducible refine Chg.setCell ?_ (by first | (left; simp [DevH.foot]; done) | (right; simp; done) | (right; simp; omega)) _)))) hc2
    have HGB := Lib.hid hb
    clear b0 b1 b2 b3 b4 b5 b6 b7 b8 b9 b10 b11 hbl HBX HC1 HGD hc2 hb
    cases b with
    | false =>
      have HPX : Hid (∀ txt es', txt = sError ∧ es' = es → ∀ W u, LineU W u txt → DoX W (.del key q) es es' now v u) := fun txt es' hte W u hl => trivial
      go_wp2_with fail
      refine (mline_raw (HM.out.chgNo (HC2.out.trans (by (repeat (first | (with_reducible exact Chg.refl _ _) | (with_reducible assumption) | (with_reducible refine Chg.drewN ?_ _) | (with_reducible refine Chg.drew ?_) | (with_reducible refine Chg.alloc ?_ _) | (with_reducible refine Chg.setCell ?_ (by first | (left; simp [DevH.foot]; done) | (right; simp; done) | (right; simp; omega)) _)))))) _).mono ?_
      rintro e w5 ⟨u, rfl, hl, hc5⟩
      have HR := Lib.hid (DoR.of (v := v) (now := now) (es := es) (ev := (.del key q)) hl (fun _ _ h8 => by rw [h8.2]; omega) (fun txt es' hte hlu => HPX.out txt es' hte _ _ hlu))
      have HC5 : Hid (Chg (fun k => k = M) w w5) := ((HC2.out.trans (by (repeat (first | (with_reducible exact Chg.refl _ _) | (with_reducible assumption) | (with_reducible refine Chg.drewN ?_ _) | (with_reducible refine Chg.drew ?_) | (with_reducible refine Chg.alloc ?_ _) | (with_reducible refine Chg.setCell ?_ (by first | (left; simp [DevH.foot]; done) | (right; simp; done) | (right; simp; omega)) _))))) : Chg No w _).andM hc5
      clear hl hc5
      go_wp2_with fail
      go_ret
      exact ⟨⟨u, rfl, HR.out⟩, HC5.out⟩
    | true =>
      have HG := fun W => Lib.hid (fun hc : Chg No w W => mget_calls (HM.out.chgNo hc) key now)
      have hok : (mget es key now).isSome = true → ((mget es key now).getD Item.zero).key.size ≤ 250 ∧ ((mget es key now).getD Item.zero).val.size ≤ 1024 := by
        intro h1
        obtain ⟨x, hx⟩ := Option.isSome_iff_exists.1 h1
        rw [hx]
        have h3 := (mget_ok HM.out hx)
        show x.key.size ≤ 250 ∧ x.val.size ≤ 1024
        exact ⟨by rw [h3.2]; exact h3.1.2.1, h3.1.2.2⟩
      obtain ⟨wx, hwx⟩ : ∃ wx, wx = (mget es key now).getD Item.zero := ⟨_, rfl⟩
      obtain ⟨th, hth⟩ : ∃ th, th = (mget es key now).isSome := ⟨_, rfl⟩
      simp only [← hwx, ← hth] at HG hok
      have HWX := Lib.hid hok
      clear hok hwx hth
      go_wp2_with fail
      refine ((HG _).out (HC2.out.trans (by (repeat (first | (with_reducible exact Chg.refl _ _) | (with_reducible assumption) | (with_reducible refine Chg.drewN ?_ _) | (with_reducible refine Chg.drew ?_) | (with_reducible refine Chg.alloc ?_ _) | (with_reducible refine Chg.setCell ?_ (by first | (left; simp [DevH.foot]; done) | (right; simp; done) | (right; simp; omega)) _)))))).mono ?_
      rintro e w3 ⟨rfl, hc3⟩
      have HBD := Lib.hid ((Blk.new w2 76 #[.string key, .bool q]).chg hc3 (fun h => h))
      have d0 := HBD.out.cell 0
      have d1 := HBD.out.cell 1
      simp only [List.getElem?_toArray, List.getElem?_cons_zero, List.getElem?_cons_succ] at d0 d1
      have hdl := HBD.out.lt
      have HC3 : Hid (Chg No w w3) := (HC2.out.trans (by (repeat (first | (with_reducible exact Chg.refl _ _) | (with_reducible assumption) | (with_reducible refine Chg.drewN ?_ _) | (with_reducible refine Chg.drew ?_) | (with_reducible refine Chg.alloc ?_ _) | (with_reducible refine Chg.setCell ?_ (by first | (left; simp [DevH.foot]; done) | (right; simp; done) | (right; simp; omega)) _))))).trans hc3
      clear HG hc3
      go_wp2_with fail
      refine (mlose_calls (HM.out.chgNo (HC3.out.trans (by (repeat (first | (with_reducible exact Chg.refl _ _) | (with_reducible assumption) | (with_reducible refine Chg.drewN ?_ _) | (with_reducible refine Chg.drew ?_) | (with_reducible refine Chg.alloc ?_ _) | (with_reducible refine Chg.setCell ?_ (by first | (left; simp [DevH.foot]; done) | (right; simp; done) | (right; simp; omega)) _)))))) hmM key).mono ?_
      rintro e w4 ⟨rfl, hm4, hc4⟩
      have HM4 := Lib.hid hm4
      have HC4 : Hid (Chg (fun k => k = M) w w4) := (HC3.out.trans (by (repeat (first | (with_reducible exact Chg.refl _ _) | (with_reducible assumption) | (with_reducible refine Chg.drewN ?_ _) | (with_reducible refine Chg.drew ?_) | (with_reducible refine Chg.alloc ?_ _) | (with_reducible refine Chg.setCell ?_ (by first | (left; simp [DevH.foot]; done) | (right; simp; done) | (right; simp; omega)) _))) : Chg No w3 _)).andM hc4
      clear hm4 hc4 HWX
      cases th with
      | false =>
        go_wp2_with fail
        refine (mline_raw HM4.out _).mono ?_
        rintro e w5 ⟨u, rfl, hl, hc5⟩
        have HR := Lib.hid (DoR.of (v := v) (now := now) (es := es) (ev := (.del key q)) hl (fun _ _ h8 => by rw [h8.2]; exact (Nat.le_trans (adel_len _ _) (Nat.le_add_right _ _))) (fun _ _ _ _ => trivial))
        have HC5 : Hid (Chg (fun k => k = M) w w5) := HC4.out.trans hc5
        clear hl hc5
        go_wp2_with fail
        go_ret
        exact ⟨⟨u, rfl, HR.out⟩, HC5.out⟩
      | true =>
        go_wp2_with fail
        refine (mline_raw HM4.out _).mono ?_
        rintro e w5 ⟨u, rfl, hl, hc5⟩
        have HR := Lib.hid (DoR.of (v := v) (now := now) (es := es) (ev := (.del key q)) hl (fun _ _ h8 => by rw [h8.2]; exact (Nat.le_trans (adel_len _ _) (Nat.le_add_right _ _))) (fun _ _ _ _ => trivial))
        have HC5 : Hid (Chg (fun k => k = M) w w5) := HC4.out.trans hc5
        clear hl hc5
        go_wp2_with fail
        go_ret
        exact ⟨⟨u, rfl, HR.out⟩, HC5.out⟩
  | flush q =>
    go_wp2_with fail
    refine ((HO _).out (by (repeat (first | (with_reducible exact Chg.refl _ _) | (with_reducible assumption) | (with_reducible refine Chg.drewN ?_ _) | (with_reducible refine Chg.drew ?_) | (with_reducible refine Chg.alloc ?_ _) | (with_reducible refine Chg.setCell ?_ (by first | (left; simp [DevH.foot]; done) | (right; simp; done) | (right; simp; omega)) _))))).mono ?_
    rintro e w1 ⟨⟨v0, rfl, hv⟩, hc1⟩
    have HC1 : Hid (Chg No w w1) := Chg.trans (by (repeat (first | (with_reducible exact Chg.refl _ _) | (with_reducible assumption) | (with_reducible refine Chg.drewN ?_ _) | (with_reducible refine Chg.drew ?_) | (with_reducible refine Chg.alloc ?_ _) | (with_reducible refine Chg.setCell ?_ (by first | (left; simp [DevH.foot]; done) | (right; simp; done) | (right; simp; omega)) _)))) hc1
    simp only [EvAt] at hv
    have HBX : Hid (Blk w1 w.heap.size tCmd #[.string what, .string verb, .slice A n cp, .string data, .int .u32 flags.toNat, .int .i64 exp, .int .u64 cas.toNat, .int .u64 by_.toNat, .bool wc, .bool wt, .bool dn, .bool qt]) := ((Blk.new w tCmd _).chg hc1 (fun h => h) : Blk w1 w.heap.size tCmd _)
    have b0 := HBX.out.cell 0
    have b1 := HBX.out.cell 1
    have b2 := HBX.out.cell 2
    have b3 := HBX.out.cell 3
    have b4 := HBX.out.cell 4
    have b5 := HBX.out.cell 5
    have b6 := HBX.out.cell 6
    have b7 := HBX.out.cell 7
    have b8 := HBX.out.cell 8
    have b9 := HBX.out.cell 9
    have b10 := HBX.out.cell 10
    have b11 := HBX.out.cell 11
    simp only [List.getElem?_toArray, List.getElem?_cons_zero, List.getElem?_cons_succ] at b0 b1 b2 b3 b4 b5 b6 b7 b8 b9 b10 b11
    have hbl := HBX.out.lt
    clear hc1 HO
    subst hv
    go_wp2_with fail
    refine ((HGD _).out (HC1.out.trans (by (repeat (first | (with_reducible exact Chg.refl _ _) | (with_reducible assumption) | (with_reducible refine Chg.drewN ?_ _) | (with_reducible refine Chg.drew ?_) | (with_reducible refine Chg.alloc ?_ _) | (with_reducible refine Chg.setCell ?_ (by first | (left; simp [DevH.foot]; done) | (right; simp; done) | (right; simp; omega)) _)))))).mono ?_
    rintro e w2 ⟨⟨b, hb, rfl⟩, hc2⟩
    have HC2 : Hid (Chg No w w2) := (HC1.out.trans (by (repeat (first | (with_reducible exact Chg.refl _ _) | (with_reducible assumption) | (with_reducible refine Chg.drewN ?_ _) | (with_reducible refine Chg.drew ?_) | (with_reducible refine Chg.alloc ?_ _) | (with_reducible refine Chg.setCell ?_ (by first | (left; simp [DevH.foot]; done) | (right; simp; done) | (right; simp; omega)) _))))).trans hc2
    have HC12 : Hid (Chg No w1 w2) := Chg.trans (by (repeat (first | (with_reducible exact Chg.refl _ _) | (with_reducible assumption) | (with_reducible refine Chg.drewN ?_ _) | (with_reducible refine Chg.drew ?_) | (with_reducible refine Chg.alloc ?_ _) | (with_reducible refine Chg.setCell ?_ (by first | (left; simp [DevH.foot]; done) | (right; simp; done) | (right; simp; omega)) _)))) hc2
    have HGB := Lib.hid hb
    clear b0 b1 b2 b3 b4 b5 b6 b7 b8 b9 b10 b11 hbl HBX HC1 HGD hc2 hb
    cases b with
    | false =>
      have HPX : Hid (∀ txt es', txt = sError ∧ es' = es → ∀ W u, LineU W u txt → DoX W (.flush q) es es' now v u) := fun txt es' hte W u hl => trivial
      go_wp2_with fail
      refine (mline_raw (HM.out.chgNo (HC2.out.trans (by (repeat (first | (with_reducible exact Chg.refl _ _) | (with_reducible assumption) | (with_reducible refine Chg.drewN ?_ _) | (with_reducible refine Chg.drew ?_) | (with_reducible refine Chg.alloc ?_ _) | (with_reducible refine Chg.setCell ?_ (by first | (left; simp [DevH.foot]; done) | (right; simp; done) | (right; simp; omega)) _)))))) _).mono ?_
      rintro e w5 ⟨u, rfl, hl, hc5⟩
      have HR := Lib.hid (DoR.of (v := v) (now := now) (es := es) (ev := (.flush q)) hl (fun _ _ h8 => by rw [h8.2]; omega) (fun txt es' hte hlu => HPX.out txt es' hte _ _ hlu))
      have HC5 : Hid (Chg (fun k => k = M) w w5) := ((HC2.out.trans (by (repeat (first | (with_reducible exact Chg.refl _ _) | (with_reducible assumption) | (with_reducible refine Chg.drewN ?_ _) | (with_reducible refine Chg.drew ?_) | (with_reducible refine Chg.alloc ?_ _) | (with_reducible refine Chg.setCell ?_ (by first | (left; simp [DevH.foot]; done) | (right; simp; done) | (right; simp; omega)) _))))) : Chg No w _).andM hc5
      clear hl hc5
      go_wp2_with fail
      go_ret
      exact ⟨⟨u, rfl, HR.out⟩, HC5.out⟩
    | true =>
      have hcW : Chg No w (w2.alloc (.cells #[.bool q] 78)) := HC2.out.alloc _
      obtain ⟨o, hrun, hmap⟩ := (HM.out.chgNo hcW).map.clear (P := Tryd.prog) (ty := 0) Tryd.underlying52
      have HF : Hid (Mp (setBlock (w2.alloc (.cells #[.bool q] 78)) M o) m M [] ∧ Chg (fun k => k = M) w (setBlock (w2.alloc (.cells #[.bool q] 78)) M o)) := ⟨⟨(HM.out.chgNo hcW).box.chg (chg_setBlock _ _ _) hmM, hmap, fun _ h => by cases h⟩, hcW.andM (chg_setBlock _ _ _)⟩
      have c0 := HC2.out.cellNoM c0 hlt
      have hlt2 : m < w2.heap.size := Nat.lt_of_lt_of_le hlt HC2.out.size
      clear hcW hmap
      go_wp2_with fail
      refine (mline_raw HF.out.1 _).mono ?_
      rintro e w5 ⟨u, rfl, hl, hc5⟩
      have HR := Lib.hid (DoR.of (v := v) (now := now) (es := es) (ev := (.flush q)) hl (fun _ _ h8 => by rw [h8.2]; exact (Nat.zero_le _)) (fun _ _ _ _ => trivial))
      have HC5 : Hid (Chg (fun k => k = M) w w5) := HF.out.2.trans hc5
      clear hl hc5
      go_wp2_with fail
      go_ret
      exact ⟨⟨u, rfl, HR.out⟩, HC5.out⟩
  | bad t =>
    go_wp2_with fail
    refine ((HO _).out (by (repeat (first | (with_reducible exact Chg.refl _ _) | (with_reducible assumption) | (with_reducible refine Chg.drewN ?_ _) | (with_reducible refine Chg.drew ?_) | (with_reducible refine Chg.alloc ?_ _) | (with_reducible refine Chg.setCell ?_ (by first | (left; simp [DevH.foot]; done) | (right; simp; done) | (right; simp; omega)) _))))).mono ?_
    rintro e w1 ⟨⟨v0, rfl, hv⟩, hc1⟩
    have HC1 : Hid (Chg No w w1) := Chg.trans (by (repeat (first | (with_reducible exact Chg.refl _ _) | (with_reducible assumption) | (with_reducible refine Chg.drewN ?_ _) | (with_reducible refine Chg.drew ?_) | (with_reducible refine Chg.alloc ?_ _) | (with_reducible refine Chg.setCell ?_ (by first | (left; simp [DevH.foot]; done) | (right; simp; done) | (right; simp; omega)) _)))) hc1
    simp only [EvAt] at hv
    have HBX : Hid (Blk w1 w.heap.size tCmd #[.string what, .string verb, .slice A n cp, .string data, .int .u32 flags.toNat, .int .i64 exp, .int .u64 cas.toNat, .int .u64 by_.toNat, .bool wc, .bool wt, .bool dn, .bool qt]) := ((Blk.new w tCmd _).chg hc1 (fun h => h) : Blk w1 w.heap.size tCmd _)
    have b0 := HBX.out.cell 0
    have b1 := HBX.out.cell 1
    have b2 := HBX.out.cell 2
    have b3 := HBX.out.cell 3
    have b4 := HBX.out.cell 4
    have b5 := HBX.out.cell 5
    have b6 := HBX.out.cell 6
    have b7 := HBX.out.cell 7
    have b8 := HBX.out.cell 8
    have b9 := HBX.out.cell 9
    have b10 := HBX.out.cell 10
    have b11 := HBX.out.cell 11
    simp only [List.getElem?_toArray, List.getElem?_cons_zero, List.getElem?_cons_succ] at b0 b1 b2 b3 b4 b5 b6 b7 b8 b9 b10 b11
    have hbl := HBX.out.lt
    clear hc1 HO
    subst hv
    clear HGD
    go_wp2_with fail
    refine (mline_raw (HM.out.chgNo (HC1.out.trans (by (repeat (first | (with_reducible exact Chg.refl _ _) | (with_reducible assumption) | (with_reducible refine Chg.drewN ?_ _) | (with_reducible refine Chg.drew ?_) | (with_reducible refine Chg.alloc ?_ _) | (with_reducible refine Chg.setCell ?_ (by first | (left; simp [DevH.foot]; done) | (right; simp; done) | (right; simp; omega)) _)))))) _).mono ?_
    rintro e w5 ⟨u, rfl, hl, hc5⟩
    have HR := Lib.hid (DoR.of (v := v) (now := now) (es := es) (ev := (.bad t)) hl (fun _ _ h8 => by rw [h8.2]; omega) (fun _ _ _ _ => trivial))
    have HC5 : Hid (Chg (fun k => k = M) w w5) := ((HC1.out.trans (by (repeat (first | (with_reducible exact Chg.refl _ _) | (with_reducible assumption) | (with_reducible refine Chg.drewN ?_ _) | (with_reducible refine Chg.drew ?_) | (with_reducible refine Chg.alloc ?_ _) | (with_reducible refine Chg.setCell ?_ (by first | (left; simp [DevH.foot]; done) | (right; simp; done) | (right; simp; omega)) _))))) : Chg No w _).andM hc5
    clear hl hc5
    go_wp2_with fail
    go_ret
    exact ⟨⟨u, rfl, HR.out⟩, HC5.out⟩
  | word t =>
    go_wp2_with fail
    refine ((HO _).out (by (repeat (first | (with_reducible exact Chg.refl _ _) | (with_reducible assumption) | (with_reducible refine Chg.drewN ?_ _) | (with_reducible refine Chg.drew ?_) | (with_reducible refine Chg.alloc ?_ _) | (with_reducible refine Chg.setCell ?_ (by first | (left; simp [DevH.foot]; done) | (right; simp; done) | (right; simp; omega)) _))))).mono ?_
    rintro e w1 ⟨⟨v0, rfl, hv⟩, hc1⟩
    have HC1 : Hid (Chg No w w1) := Chg.trans (by (repeat (first | (with_reducible exact Chg.refl _ _) | (with_reducible assumption) | (with_reducible refine Chg.drewN ?_ _) | (with_reducible refine Chg.drew ?_) | (with_reducible refine Chg.alloc ?_ _) | (with_reducible refine Chg.setCell ?_ (by first | (left; simp [DevH.foot]; done) | (right; simp; done) | (right; simp; omega)) _)))) hc1
    simp only [EvAt] at hv
    have HBX : Hid (Blk w1 w.heap.size tCmd #[.string what, .string verb, .slice A n cp, .string data, .int .u32 flags.toNat, .int .i64 exp, .int .u64 cas.toNat, .int .u64 by_.toNat, .bool wc, .bool wt, .bool dn, .bool qt]) := ((Blk.new w tCmd _).chg hc1 (fun h => h) : Blk w1 w.heap.size tCmd _)
    have b0 := HBX.out.cell 0
    have b1 := HBX.out.cell 1
    have b2 := HBX.out.cell 2
    have b3 := HBX.out.cell 3
    have b4 := HBX.out.cell 4
    have b5 := HBX.out.cell 5
    have b6 := HBX.out.cell 6
    have b7 := HBX.out.cell 7
    have b8 := HBX.out.cell 8
    have b9 := HBX.out.cell 9
    have b10 := HBX.out.cell 10
    have b11 := HBX.out.cell 11
    simp only [List.getElem?_toArray, List.getElem?_cons_zero, List.getElem?_cons_succ] at b0 b1 b2 b3 b4 b5 b6 b7 b8 b9 b10 b11
    have hbl := HBX.out.lt
    clear hc1 HO
    subst hv
    go_wp2_with fail
    refine ((HGD _).out (HC1.out.trans (by (repeat (first | (with_reducible exact Chg.refl _ _) | (with_reducible assumption) | (with_reducible refine Chg.drewN ?_ _) | (with_reducible refine Chg.drew ?_) | (with_reducible refine Chg.alloc ?_ _) | (with_reducible refine Chg.setCell ?_ (by first | (left; simp [DevH.foot]; done) | (right; simp; done) | (right; simp; omega)) _)))))).mono ?_
    rintro e w2 ⟨⟨b, hb, rfl⟩, hc2⟩
    have HC2 : Hid (Chg No w w2) := (HC1.out.trans (by (repeat (first | (with_reducible exact Chg.refl _ _) | (with_reducible assumption) | (with_reducible refine Chg.drewN ?_ _) | (with_reducible refine Chg.drew ?_) | (with_reducible refine Chg.alloc ?_ _) | (with_reducible refine Chg.setCell ?_ (by first | (left; simp [DevH.foot]; done) | (right; simp; done) | (right; simp; omega)) _))))).trans hc2
    have HC12 : Hid (Chg No w1 w2) := Chg.trans (by (repeat (first | (with_reducible exact Chg.refl _ _) | (with_reducible assumption) | (with_reducible refine Chg.drewN ?_ _) | (with_reducible refine Chg.drew ?_) | (with_reducible refine Chg.alloc ?_ _) | (with_reducible refine Chg.setCell ?_ (by first | (left; simp [DevH.foot]; done) | (right; simp; done) | (right; simp; omega)) _)))) hc2
    have HGB := Lib.hid hb
    clear b0 b1 b2 b3 b4 b5 b6 b7 b8 b9 b10 b11 hbl HBX HC1 HGD hc2 hb
    cases b with
    | false =>
      have HPX : Hid (∀ txt es', txt = sError ∧ es' = es → ∀ W u, LineU W u txt → DoX W (.word t) es es' now v u) := fun txt es' hte W u hl => (fun h1 => by cases HGB.out h1)
      go_wp2_with fail
      refine (mline_raw (HM.out.chgNo (HC2.out.trans (by (repeat (first | (with_reducible exact Chg.refl _ _) | (with_reducible assumption) | (with_reducible refine Chg.drewN ?_ _) | (with_reducible refine Chg.drew ?_) | (with_reducible refine Chg.alloc ?_ _) | (with_reducible refine Chg.setCell ?_ (by first | (left; simp [DevH.foot]; done) | (right; simp; done) | (right; simp; omega)) _)))))) _).mono ?_
      rintro e w5 ⟨u, rfl, hl, hc5⟩
      have HR := Lib.hid (DoR.of (v := v) (now := now) (es := es) (ev := (.word t)) hl (fun _ _ h8 => by rw [h8.2]; omega) (fun txt es' hte hlu => HPX.out txt es' hte _ _ hlu))
      have HC5 : Hid (Chg (fun k => k = M) w w5) := ((HC2.out.trans (by (repeat (first | (with_reducible exact Chg.refl _ _) | (with_reducible assumption) | (with_reducible refine Chg.drewN ?_ _) | (with_reducible refine Chg.drew ?_) | (with_reducible refine Chg.alloc ?_ _) | (with_reducible refine Chg.setCell ?_ (by first | (left; simp [DevH.foot]; done) | (right; simp; done) | (right; simp; omega)) _))))) : Chg No w _).andM hc5
      clear hl hc5
      go_wp2_with fail
      go_ret
      exact ⟨⟨u, rfl, HR.out⟩, HC5.out⟩
    | true =>
      by_cases ht : t = sQuit
      · obtain rfl : t = ⟨#[113, 117, 105, 116]⟩ := ht
        go_wp2_with fail
        go_ret
        exact ⟨⟨_, rfl, es, HM.out.chgNo (HC2.out.trans (by (repeat (first | (with_reducible exact Chg.refl _ _) | (with_reducible assumption) | (with_reducible refine Chg.drewN ?_ _) | (with_reducible refine Chg.drew ?_) | (with_reducible refine Chg.alloc ?_ _) | (with_reducible refine Chg.setCell ?_ (by first | (left; simp [DevH.foot]; done) | (right; simp; done) | (right; simp; omega)) _))))), by omega, fun _ => ⟨rfl, rfl⟩⟩, (HC2.out.trans (by (repeat (first | (with_reducible exact Chg.refl _ _) | (with_reducible assumption) | (with_reducible refine Chg.drewN ?_ _) | (with_reducible refine Chg.drew ?_) | (with_reducible refine Chg.alloc ?_ _) | (with_reducible refine Chg.setCell ?_ (by first | (left; simp [DevH.foot]; done) | (right; simp; done) | (right; simp; omega)) _))) : Chg No w2 _)).mono (fun _ _ h => h.elim)⟩
      · have s1 := str_ne t _ ht
        have HT := Lib.hid ht
        clear ht
        go_wp2_with fail
        refine (mline_raw (HM.out.chgNo (HC2.out.trans (by (repeat (first | (with_reducible exact Chg.refl _ _) | (with_reducible assumption) | (with_reducible refine Chg.drewN ?_ _) | (with_reducible refine Chg.drew ?_) | (with_reducible refine Chg.alloc ?_ _) | (with_reducible refine Chg.setCell ?_ (by first | (left; simp [DevH.foot]; done) | (right; simp; done) | (right; simp; omega)) _)))))) _).mono ?_
        rintro e w5 ⟨u, rfl, hl, hc5⟩
        have HR := Lib.hid (DoR.of (v := v) (now := now) (es := es) (ev := (.word t)) hl (fun _ _ h8 => by rw [h8.2]; omega) (fun _ _ _ _ h9 => absurd h9 HT.out))
        have HC5 : Hid (Chg (fun k => k = M) w w5) := ((HC2.out.trans (by (repeat (first | (with_reducible exact Chg.refl _ _) | (with_reducible assumption) | (with_reducible refine Chg.drewN ?_ _) | (with_reducible refine Chg.drew ?_) | (with_reducible refine Chg.alloc ?_ _) | (with_reducible refine Chg.setCell ?_ (by first | (left; simp [DevH.foot]; done) | (right; simp; done) | (right; simp; omega)) _))))) : Chg No w _).andM hc5
        clear hl hc5
        go_wp2_with fail
        go_ret
        exact ⟨⟨u, rfl, HR.out⟩, HC5.out⟩
  | none =>
    go_wp2_with fail
    refine ((HO _).out (by (repeat (first | (with_reducible exact Chg.refl _ _) | (with_reducible assumption) | (with_reducible refine Chg.drewN ?_ _) | (with_reducible refine Chg.drew ?_) | (with_reducible refine Chg.alloc ?_ _) | (with_reducible refine Chg.setCell ?_ (by first | (left; simp [DevH.foot]; done) | (right; simp; done) | (right; simp; omega)) _))))).mono ?_
    rintro e w1 ⟨⟨v0, rfl, hv⟩, hc1⟩
    have HC1 : Hid (Chg No w w1) := Chg.trans (by (repeat (first | (with_reducible exact Chg.refl _ _) | (with_reducible assumption) | (with_reducible refine Chg.drewN ?_ _) | (with_reducible refine Chg.drew ?_) | (with_reducible refine Chg.alloc ?_ _) | (with_reducible refine Chg.setCell ?_ (by first | (left; simp [DevH.foot]; done) | (right; simp; done) | (right; simp; omega)) _)))) hc1
    simp only [EvAt] at hv
    have HBX : Hid (Blk w1 w.heap.size tCmd #[.string what, .string verb, .slice A n cp, .string data, .int .u32 flags.toNat, .int .i64 exp, .int .u64 cas.toNat, .int .u64 by_.toNat, .bool wc, .bool wt, .bool dn, .bool qt]) := ((Blk.new w tCmd _).chg hc1 (fun h => h) : Blk w1 w.heap.size tCmd _)
    have b0 := HBX.out.cell 0
    have b1 := HBX.out.cell 1
    have b2 := HBX.out.cell 2
    have b3 := HBX.out.cell 3
    have b4 := HBX.out.cell 4
    have b5 := HBX.out.cell 5
    have b6 := HBX.out.cell 6
    have b7 := HBX.out.cell 7
    have b8 := HBX.out.cell 8
    have b9 := HBX.out.cell 9
    have b10 := HBX.out.cell 10
    have b11 := HBX.out.cell 11
    simp only [List.getElem?_toArray, List.getElem?_cons_zero, List.getElem?_cons_succ] at b0 b1 b2 b3 b4 b5 b6 b7 b8 b9 b10 b11
    have hbl := HBX.out.lt
    clear hc1 HO
    subst hv
    go_wp2_with fail
    refine ((HGD _).out (HC1.out.trans (by (repeat (first | (with_reducible exact Chg.refl _ _) | (with_reducible assumption) | (with_reducible refine Chg.drewN ?_ _) | (with_reducible refine Chg.drew ?_) | (with_reducible refine Chg.alloc ?_ _) | (with_reducible refine Chg.setCell ?_ (by first | (left; simp [DevH.foot]; done) | (right; simp; done) | (right; simp; omega)) _)))))).mono ?_
    rintro e w2 ⟨⟨b, hb, rfl⟩, hc2⟩
    have HC2 : Hid (Chg No w w2) := (HC1.out.trans (by (repeat (first | (with_reducible exact Chg.refl _ _) | (with_reducible assumption) | (with_reducible refine Chg.drewN ?_ _) | (with_reducible refine Chg.drew ?_) | (with_reducible refine Chg.alloc ?_ _) | (with_reducible refine Chg.setCell ?_ (by first | (left; simp [DevH.foot]; done) | (right; simp; done) | (right; simp; omega)) _))))).trans hc2
    have HC12 : Hid (Chg No w1 w2) := Chg.trans (by (repeat (first | (with_reducible exact Chg.refl _ _) | (with_reducible assumption) | (with_reducible refine Chg.drewN ?_ _) | (with_reducible refine Chg.drew ?_) | (with_reducible refine Chg.alloc ?_ _) | (with_reducible refine Chg.setCell ?_ (by first | (left; simp [DevH.foot]; done) | (right; simp; done) | (right; simp; omega)) _)))) hc2
    have HGB := Lib.hid hb
    clear b0 b1 b2 b3 b4 b5 b6 b7 b8 b9 b10 b11 hbl HBX HC1 HGD hc2 hb
    cases b with
    | false =>
      have HPX : Hid (∀ txt es', txt = sError ∧ es' = es → ∀ W u, LineU W u txt → DoX W .none es es' now v u) := fun txt es' hte W u hl => (by obtain ⟨rfl, rfl⟩ := hte; exact ⟨hl, rfl⟩)
      go_wp2_with fail
      refine (mline_raw (HM.out.chgNo (HC2.out.trans (by (repeat (first | (with_reducible exact Chg.refl _ _) | (with_reducible assumption) | (with_reducible refine Chg.drewN ?_ _) | (with_reducible refine Chg.drew ?_) | (with_reducible refine Chg.alloc ?_ _) | (with_reducible refine Chg.setCell ?_ (by first | (left; simp [DevH.foot]; done) | (right; simp; done) | (right; simp; omega)) _)))))) _).mono ?_
      rintro e w5 ⟨u, rfl, hl, hc5⟩
      have HR := Lib.hid (DoR.of (v := v) (now := now) (es := es) (ev := .none) hl (fun _ _ h8 => by rw [h8.2]; omega) (fun txt es' hte hlu => HPX.out txt es' hte _ _ hlu))
      have HC5 : Hid (Chg (fun k => k = M) w w5) := ((HC2.out.trans (by (repeat (first | (with_reducible exact Chg.refl _ _) | (with_reducible assumption) | (with_reducible refine Chg.drewN ?_ _) | (with_reducible refine Chg.drew ?_) | (with_reducible refine Chg.alloc ?_ _) | (with_reducible refine Chg.setCell ?_ (by first | (left; simp [DevH.foot]; done) | (right; simp; done) | (right; simp; omega)) _))))) : Chg No w _).andM hc5
      clear hl hc5
      go_wp2_with fail
      go_ret
      exact ⟨⟨u, rfl, HR.out⟩, HC5.out⟩
    | true => exact absurd HGB.out (by simp [GoodR])
end
end Go.Proofs.YtedkoplgfidjlaaDoor
