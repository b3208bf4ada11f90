/- RegionNumbers, walked. -/
import Derived.Test.YtcmobcbecbajiaaRegSe
/- A page whose number is changed, in plain Lean. -/
namespace Go.Proofs.Ytcmobcbecbajiaa
open Go.RowKit
set_option linter.unusedSimpArgs false
set_option linter.unusedVariables false

theorem num_inj : ∀ {a b : List UInt8}, a.length = b.length → num a = num b → a = b
  | [], [], _, _ => rfl
  | [], _ :: _, h, _ => by simp at h
  | _ :: _, [], h, _ => by simp at h
  | x :: a, y :: b, hl, h => by
    simp only [num] at h
    have h3 := x.toNat_lt
    have h4 := y.toNat_lt
    have h1 : x.toNat = y.toNat := by omega
    have h2 : num a = num b := by omega
    rw [UInt8.toNat_inj.1 h1, num_inj (by simpa using hl) h2]
theorem rgN_set {px : List UInt8} {p at_ n : Nat} {v : UInt8} (hl : px.length = 384) (ha : at_ < 8) (hv : v ≠ px.getD (8 + at_) 0) (hf : rgForm px p = true) (hn : rgN px p = n) (h0 : n ≠ 0) : rgN (px.set (8 + at_) v) p ≠ n := by
  intro h
  unfold rgN at h hn
  rw [if_pos hf] at hn
  split at h
  · have e := num_inj (by unfold cut; simp) (h.trans hn.symm)
    have e2 : (cut (px.set (8 + at_) v) 8 16)[at_]? = (cut px 8 16)[at_]? := by rw [e]
    unfold cut at e2
    simp only [List.getElem?_take, List.getElem?_drop] at e2
    rw [if_pos (by omega), if_pos (by omega), List.getElem?_set_self (by omega)] at e2
    apply hv
    rw [List.getD_eq_getElem?_getD, ← e2]
    rfl
  · exact h0 h.symm
theorem OneR.renumbered {G : Lg} {D : Dev} {i p at_ : Nat} (h : OneR G D i) (hi : i < 2000) (h0 : G.number ≠ 0) (hp : p < 4) (ha : at_ < 8) {px : List UInt8} (hx : D.page p = .full px) {v : UInt8} (hv : v ≠ px.getD (8 + at_) 0) :
    px.length = 384 ∧ (D.write p (px.set (8 + at_) v)).On ∧ (D.write p (px.set (8 + at_) v)).n = 4 ∧ (Lg.opened (D.write p (px.set (8 + at_) v)) 0 1).items.length = 0 ∧ G.number ≤ (Lg.opened (D.write p (px.set (8 + at_) v)) 0 1).number := by
  obtain ⟨S, _, _, _, hs⟩ := h.reg
  have hsl := (hs h0).1
  have hnum := h.num
  have hpx : px = Dev.pad (rgPg (records S.l) G.number p) := by
    have := hsl p hp
    have e : D.rpg 0 0 p = D.page p := by simp [Dev.rpg]
    rw [e, hx] at this
    simpa using this
  have hl : px.length = 384 := by rw [hpx]; exact pad_length _ (rgPg_le _ _ _)
  have hw := h.live.on.write (k := p) (by rw [h.pages]; exact hp) (b := px.set (8 + at_) v) (by rw [List.length_set]; omega)
  refine ⟨hl, hw.2.1, by rw [hw.2.2.1]; exact h.pages, ?_⟩
  obtain ⟨D', hD'⟩ : ∃ D', D' = D.write p (px.set (8 + at_) v) := ⟨_, rfl⟩
  have hpg := hw.2.2.2.2
  rw [← hD'] at hpg ⊢
  have hpad : Dev.pad (px.set (8 + at_) v) = px.set (8 + at_) v := by unfold Dev.pad; rw [List.length_set, hl]; simp
  have hr : ∀ k, D'.rpg 0 0 k = if k = p then .full (px.set (8 + at_) v) else D.rpg 0 0 k := by
    intro k
    have := hpg k
    rw [hpad] at this
    simpa [Dev.rpg] using this
  obtain ⟨q, hq, hqp⟩ : ∃ q, q < 4 ∧ q ≠ p := by
    by_cases h : p = 0
    · exact ⟨1, by omega, by omega⟩
    · exact ⟨0, by omega, fun e => h e.symm⟩
  have hqq : D'.rpg 0 0 q = .full (Dev.pad (rgPg (records S.l) G.number q)) := by rw [hr, if_neg hqp]; exact hsl q hq
  have hqn : (D'.rpg 0 0 q).rn q = G.number := by rw [hqq]; exact pad_num _ _ _ (by omega) (by omega)
  have hpn : (D'.rpg 0 0 p).rn p ≠ G.number := by
    rw [hr, if_pos rfl]
    exact rgN_set hl ha hv (by rw [hpx]; exact pad_form _ _ _ (by omega)) (by rw [hpx]; exact pad_num _ _ _ (by omega) (by omega)) h0
  have ho := opened_no_items (load_no (P := D'.rpg 0 0) hp hq (by rw [hqn]; exact hpn))
  refine ⟨ho.1, ?_⟩
  rw [ho.2]
  have := top_ge (P := D'.rpg 0 0) hq 0
  rw [hqq, pad_stands _ _ _ (by omega) (by omega)] at this
  exact this
end Go.Proofs.Ytcmobcbecbajiaa

namespace Go.Proofs.Ytcmobcbecbajiaa
open Go.RowKit
open Go.ChangeMaps (setBlock)
attribute [local go_sem ↓] Go.wp_at_zero Go.wp_at_succ
set_option linter.unusedSimpArgs false
set_option linter.unusedVariables false

theorem own_store {w : World} {base n c : Nat} {A : Option Addr} {xs : List Value} {e : TypeId} (ho : w.ownsRow base e 1 (.slice A n c) n xs) (j : Nat) (hj : j < n) (u : Value) :
    ∃ g, A = some ⟨g, 0, none⟩ ∧ base ≤ g ∧ w.frozen? ⟨g, j, none⟩ = false ∧ (∃ u0, w.cell? ⟨g, j, none⟩ = some u0) ∧ Rd (w.setCell ⟨g, j, none⟩ u) e (some ⟨g, 0, none⟩) n (xs.set j u) ∧ (Value.slice A n c).ownBlock = some g := by
  rcases ho.2 with ⟨h0, hn0⟩ | ⟨g, cap, cur, hv, hb, hg, h1, h2, h3, h4⟩
  · omega
  · cases hv
    have hB : Blk w g e cur := hg
    have hjc : j < cur.size := by omega
    refine ⟨g, rfl, hb, hB.frozen j, ⟨cur[j], ?_⟩, ?_, rfl⟩
    · rw [hB.cell j, Array.getElem?_eq_getElem hjc]
    · have := Rd.ofBlk (k := n) (hB.set_ j u) (by simp; omega)
      rw [Array.toList_setIfInBounds, List.take_set] at this
      rw [Nat.mul_one] at h4
      rwa [h4] at this
theorem OneR.readIt {G : Lg} {D : Dev} {i p : Nat} (h : OneR G D i) (h0 : G.number ≠ 0) (hp : p < 4) : ∃ px, D.page p = .full px ∧ px.length = 384 ∧ D.readE (p : Int) = 0 ∧ D.read (p : Int) = px := by
  obtain ⟨S, _, _, _, hs⟩ := h.reg
  have hsl := (hs h0).1 p hp
  have e : D.rpg 0 0 p = D.page p := by simp [Dev.rpg]
  rw [e] at hsl
  have hh : D.has (p : Int) = true := by simp [Dev.has, h.pages]; omega
  have ho := h.live.on.off
  refine ⟨_, hsl, pad_length _ (rgPg_le _ _ _), ?_, ?_⟩
  · unfold Dev.readE; rw [hh, ho]; simp [hsl, Pg.err]
  · unfold Dev.read; rw [hh, ho]; simp [hsl, Pg.data]
theorem xor_by (a b : UInt8) (h0 : b ≠ 0) : bits .xor .u8 (a.toNat : Int) (b.toNat : Int) = ((a ^^^ b).toNat : Int) ∧ a ^^^ b ≠ a := by
  have ha := a.toNat_lt
  have hb := b.toNat_lt
  have hx := (a ^^^ b).toNat_lt
  refine ⟨?_, fun h => h0 ?_⟩
  · have e : (a ^^^ b).toNat = a.toNat ^^^ b.toNat := UInt8.toNat_xor a b
    show IntKind.u8.wrap ((BitVec.ofInt 8 (a.toNat : Int) ^^^ BitVec.ofInt 8 (b.toNat : Int)).toNat : Int) = _
    have h1 : (BitVec.ofInt 8 (a.toNat : Int)).toNat = a.toNat := by
      rw [BitVec.ofInt_natCast, BitVec.toNat_ofNat]; exact Nat.mod_eq_of_lt (by omega)
    have h2 : (BitVec.ofInt 8 (b.toNat : Int)).toNat = b.toNat := by
      rw [BitVec.ofInt_natCast, BitVec.toNat_ofNat]; exact Nat.mod_eq_of_lt (by omega)
    rw [BitVec.toNat_xor, h1, h2, ← e]
    exact wraps_u8 _ (by omega) (by omega)
  · have : a ^^^ (a ^^^ b) = a ^^^ a := by rw [h]
    simpa [← UInt8.xor_assoc] using this

set_option maxRecDepth 100000 in
set_option maxHeartbeats 8000000 in
theorem rnumbers_calls (A : Option Addr) (n c : Nat) (l : List Item) (te : TypeId) (z y b : Int) (w : World) (hn : l.length = n) (hr : Rd w te A (n * 5) (its l)) (hs : ∀ x ∈ l, x.key.size ≤ 140737488351232 ∧ x.val.size ≤ 140737488351232) (hnm : n ≤ 9223372036854775807) (hb : 0 ≤ b ∧ b < 256) :
    Calls Try.prog 9 #[.slice A n c, .int .i64 z, .int .i64 y, .int .u8 b] w fun e w' => e = .returned (.bool true) ∧ Chg No w w' := by
  have HA := Lib.hid (awake9_calls w)
  have HN := fun W => Lib.hid (new_calls 4 W (by omega) (by omega))
  have HR := Lib.hid hr
  have HNL := Lib.hid hn
  have HS := Lib.hid hs
  clear hr hn hs
  by_cases h1 : n = 0
  · subst h1
    go_enter Try.func9, Try.ntmps9
    go_wp2_with fail
    refine HA.out.mono ?_
    rintro e w0 ⟨rfl, hc0⟩
    have HC0 := Lib.hid hc0
    clear hc0 HA HN
    go_wp2
    go_ret
    exact ⟨rfl, HC0.out⟩
  have n0 : ((n : Int) == 0) = false := by simp; omega
  have n0' : ¬ (n : Int) = 0 := by omega
  by_cases h2 : 20 < n
  · have b2 : (20 : Int) < (n : Int) := by omega
    clear h1
    go_enter Try.func9, Try.ntmps9
    go_wp2_with fail
    refine HA.out.mono ?_
    rintro e w0 ⟨rfl, hc0⟩
    have HC0 := Lib.hid hc0
    clear hc0 HA HN
    go_wp2
    go_ret
    exact ⟨rfl, HC0.out⟩
  have b2 : ¬ (20 : Int) < (n : Int) := by omega
  by_cases h3 : z < 0
  · clear h1 h2
    go_enter Try.func9, Try.ntmps9
    go_wp2_with fail
    refine HA.out.mono ?_
    rintro e w0 ⟨rfl, hc0⟩
    have HC0 := Lib.hid hc0
    clear hc0 HA HN
    go_wp2
    go_ret
    exact ⟨rfl, HC0.out⟩
  by_cases h4 : 3 < z
  · clear h1 h2
    go_enter Try.func9, Try.ntmps9
    go_wp2_with fail
    refine HA.out.mono ?_
    rintro e w0 ⟨rfl, hc0⟩
    have HC0 := Lib.hid hc0
    clear hc0 HA HN
    go_wp2
    go_ret
    exact ⟨rfl, HC0.out⟩
  by_cases h5 : y < 0
  · clear h1 h2
    go_enter Try.func9, Try.ntmps9
    go_wp2_with fail
    refine HA.out.mono ?_
    rintro e w0 ⟨rfl, hc0⟩
    have HC0 := Lib.hid hc0
    clear hc0 HA HN
    go_wp2
    go_ret
    exact ⟨rfl, HC0.out⟩
  by_cases h6 : 7 < y
  · clear h1 h2
    go_enter Try.func9, Try.ntmps9
    go_wp2_with fail
    refine HA.out.mono ?_
    rintro e w0 ⟨rfl, hc0⟩
    have HC0 := Lib.hid hc0
    clear hc0 HA HN
    go_wp2
    go_ret
    exact ⟨rfl, HC0.out⟩
  by_cases h7 : b = 0
  · subst h7
    clear h1 h2
    go_enter Try.func9, Try.ntmps9
    go_wp2_with fail
    refine HA.out.mono ?_
    rintro e w0 ⟨rfl, hc0⟩
    have HC0 := Lib.hid hc0
    clear hc0 HA HN
    go_wp2
    go_ret
    exact ⟨rfl, HC0.out⟩
  have b0 : (b == 0) = false := by simp; omega
  obtain ⟨q, rfl⟩ := Int.eq_ofNat_of_zero_le (show 0 ≤ y by omega)
  have hq8 : q < 8 := by omega
  have q7 : ¬ (7 : Int) < (q : Int) := by omega
  obtain ⟨p, rfl⟩ := Int.eq_ofNat_of_zero_le (show 0 ≤ z by omega)
  have hp4 : p < 4 := by omega
  have hn20 : n ≤ 20 := by omega
  clear h1 h2 h3 h4 h5 h6
  have p3 : ¬ (3 : Int) < (p : Int) := by omega
  go_enter Try.func9, Try.ntmps9
  go_wp2_with fail
  refine HA.out.mono ?_
  rintro e w0 ⟨rfl, hc0⟩
  have HC0 := Lib.hid hc0
  clear hc0 HA
  go_wp2_with fail
  refine (HN _).out.mono ?_
  rintro e w1 ⟨h, rfl, hd1, hc1, hf1⟩
  have HOP := Lib.hid (Hlog.opened (first := 0) (n := 1) hd1 hf1 hc1 (by omega) (by omega) (by show 0 + 4 * 1 ≤ (4 : Nat); omega) rfl)
  rw [show Dev.new (4 : Int).toNat = Dev.new 4 from rfl] at HOP
  have HF := Lib.hid hf1
  clear hd1 hc1 hf1 HN
  go_wp2_with fail
  refine HOP.out.mono ?_
  rintro e w2 ⟨t0, rfl, hh2, _, hc2⟩
  have HH2 := Lib.hid hh2
  have HO0 := Lib.hid oneR_new
  obtain ⟨G0, hG0⟩ : ∃ G0, G0 = Lg.opened (Dev.new 4) 0 1 := ⟨_, rfl⟩
  rw [← hG0] at HH2 HO0
  clear hh2 hc2 HOP hG0
  go_wp2
  go_loopg [13] n (fun gk vi wr => ∃ i : Nat, gk = n - i ∧ i ≤ n ∧ vi = .int .i64 i ∧ Hid (∃ (t : LgH) (G : Lg) (D : Dev), t.L = t0.L ∧ Hlog w0 h t G D wr ∧ OneR G D i))
  case atStart => exact ⟨0, rfl, Nat.zero_le _, rfl, t0, G0, Dev.new 4, rfl, HH2.out, HO0.out⟩
  case round =>
    obtain ⟨i, rfl, hi, rfl, t, G, D, hL, HH, HO⟩ := hrel
    by_cases hlt : i < n
    · obtain ⟨x, hx⟩ : ∃ x, l[i]? = some x := ⟨_, List.getElem?_eq_getElem (by rw [HNL.out]; exact hlt)⟩
      have hsx := HS.out x (List.mem_of_getElem? hx)
      obtain ⟨g, off, hA, hg, hc⟩ := (HR.out.chg (HC0.out.trans HH.chg) (fun _ _ _ _ h => h)).at_ (j := i * 5) (by omega)
      subst hA
      have c0 := hc (i * 5 + 0) _ (its_get l i 0 x hx (by omega))
      have c1 := hc (i * 5 + 1) _ (its_get l i 1 x hx (by omega))
      have c2 := hc (i * 5 + 2) _ (its_get l i 2 x hx (by omega))
      have c3 := hc (i * 5 + 3) _ (its_get l i 3 x hx (by omega))
      have c4 := hc (i * 5 + 4) _ (its_get l i 4 x hx (by omega))
      simp only [itc, List.getElem_cons_zero, List.getElem_cons_succ, ← Nat.add_assoc, Nat.add_zero] at c0 c1 c2 c3 c4
      have hii : (i : Int) < (n : Int) := by omega
      have HPUT := Lib.hid (HH.put x hsx.1 hsx.2)
      rw [hL] at HPUT
      have HO2 := Lib.hid (HO.put (by omega) x)
      have HLL := Lib.hid hL
      obtain ⟨R, hR⟩ : ∃ R, R = G.put D x := ⟨_, rfl⟩
      rw [← hR] at HPUT HO2
      clear hsx hx hc HO hL hR HH HH2 HO0
      go_wp2_with fail
      refine HPUT.out.mono ?_
      rintro e w3 ⟨v3, t3, rfl, hp⟩
      have HH3 := Lib.hid hp.st
      have HL3 : Hid (t3.L = t0.L) := hp.L.trans HLL.out
      clear hp HPUT
      go_wp2
      go_roundg (n - (i + 1))
      case measure => omega
      case rel => exact ⟨i + 1, rfl, by omega, by go_num, t3, _, _, HL3.out, HH3.out, HO2.out⟩
    · obtain rfl : i = n := by omega
      have HSE := Lib.hid HH.shut
      have hsl := HO.sl (by omega)
      rw [hL, hsl.1] at HSE
      obtain ⟨G2, D2, lost, er, hRe⟩ : ∃ G2 D2 lost er, G.sl D = ⟨G2, D2, lost, er⟩ := ⟨_, _, _, _, rfl⟩
      rw [hRe] at HSE hsl
      have HO2 : Hid (OneR G2 D2 (i + 1)) := hsl.2.1
      have HLL := Lib.hid hL
      clear hlt hsl hRe HH2 HO0
      go_wp2_with fail
      refine HSE.out.mono ?_
      rintro e w3 ⟨v3, t3, rfl, hp⟩
      have HH3 : Hid (Hlog w0 h t3 G2 D2 w3) := hp.st
      have HL3 : Hid (t3.L = t0.L) := hp.L.trans HLL.out
      have HNU := fun W => Lib.hid (fun hc : Chg No w3 W => gnum_calls (HH3.out.log.chgNo hc))
      rw [HL3.out] at HNU
      obtain ⟨num, hnum⟩ : ∃ num, num = G2.number := ⟨_, rfl⟩
      rw [← hnum] at HNU
      have HNM := Lib.hid hnum
      clear hp HSE hnum
      by_cases h0 : num = 0
      · subst h0
        simp only [Int.natCast_zero] at HNU
        go_wp2_with fail
        refine ((HNU _).out (by (repeat (first | (with_reducible exact Chg.refl _ _) | (with_reducible assumption) | (with_reducible refine Chg.drewN ?_ _) | (with_reducible refine Chg.drew ?_) | (with_reducible refine Chg.alloc ?_ _) | (with_reducible refine Chg.setCell ?_ (by first | (left; simp [DevH.foot]; done) | (right; simp; done) | (right; simp; omega)) _))))).mono ?_
        rintro e w4 ⟨rfl, rfl⟩
        go_wp2
        go_ret
        exact ⟨rfl, HC0.out.trans HH3.out.chg⟩
      · have q0 : ((num : Int) == 0) = false := by simp; omega
        have q0' : ¬ (num : Int) = 0 := by omega
        go_wp2_with fail
        refine ((HNU _).out (by (repeat (first | (with_reducible exact Chg.refl _ _) | (with_reducible assumption) | (with_reducible refine Chg.drewN ?_ _) | (with_reducible refine Chg.drew ?_) | (with_reducible refine Chg.alloc ?_ _) | (with_reducible refine Chg.setCell ?_ (by first | (left; simp [DevH.foot]; done) | (right; simp; done) | (right; simp; omega)) _))))).mono ?_
        rintro e w4 ⟨rfl, rfl⟩
        have HG0 : Hid (G2.number ≠ 0) := by show _ ≠ _; rw [← HNM.out]; exact h0
        obtain ⟨px, hx, hxl, hr1, hr2⟩ := HO2.out.readIt HG0.out hp4
        have HRD : Hid (Calls Try.prog 36 #[.pointer (some ⟨h.d, 0, none⟩), .int .i64 p] w3 fun e w' => ∃ v, e = .returned (.tuple #[v, .int .i64 0]) ∧ w'.ownsRow w3.heap.size tU8 1 v 384 (bys px) ∧ DevN w3.heap.size w' h D2 ∧ Chg h.foot w3 w') := by
          have := read_calls (show DevN w3.heap.size w3 h D2 from HH3.out.dev) (p : Int)
          rw [hr1, hr2, hxl] at this
          exact this
        have HX := Lib.hid hx
        have HXL := Lib.hid hxl
        clear hr1 hr2 hx hxl
        go_wp2_with fail
        refine HRD.out.mono ?_
        rintro e w4 ⟨v4, rfl, ho4, hd4, hc4⟩
        have HH4 := Lib.hid (HH3.out.flash hd4.at_ hc4)
        have HD4 := Lib.hid hd4
        obtain ⟨A4, c4, rfl, hnc4, hr4⟩ := own_slice ho4
        have HO4 := Lib.hid ho4
        have HR4 := Lib.hid hr4
        clear ho4 hd4 hc4 hr4 HRD
        obtain ⟨B, rfl⟩ : ∃ B : UInt8, b = (B.toNat : Int) := ⟨UInt8.ofNat b.toNat, by rw [UInt8.toNat_ofNat']; omega⟩
        have hB0 : B ≠ 0 := by rintro rfl; simp at h7
        obtain ⟨x, hx8⟩ : ∃ x, x = px.getD (8 + q) 0 := ⟨_, rfl⟩
        have HXB := Lib.hid (xor_by x B hB0)
        obtain ⟨g, eA, hgb, hfz, _, hrx, hob⟩ := own_store HO4.out (8 + q) (by omega) (.int .u8 (x ^^^ B).toNat)
        subst eA
        have hcell : w4.cell? ⟨g, 8 + q, none⟩ = some (.int .u8 x.toNat) := by
          obtain ⟨g', off, e, _, hx⟩ := HR4.out.at_ (j := 8 + q) (by omega)
          have e' : g = g' ∧ 0 = off := by simpa using e
          obtain ⟨rfl, rfl⟩ := e'
          have := hx (8 + q) (.int .u8 (px.getD (8 + q) 0).toNat) (by
            have hpl := HXL.out
            simp [bys, List.getD_eq_getElem?_getD, List.getElem?_eq_getElem (show 8 + q < px.length by omega)])
          rw [Nat.zero_add] at this
          rw [hx8]; exact this
        have hcg : Chg (fun k => k = g) w4 (w4.setCell ⟨g, 8 + q, none⟩ (.int .u8 (x ^^^ B).toNat)) := chg_setCell w4 ⟨g, 8 + q, none⟩ _
        have hdv : DevAt (w4.setCell ⟨g, 8 + q, none⟩ (.int .u8 (x ^^^ B).toNat)) h D2 := by
          have HD4 := HD4.out
          exact (HD4.chg hcg (fun hS => own_foot HD4 HO4.out (by decide) (by decide) _ hob (.inl hS.symm)) (fun hS => own_foot HD4 HO4.out (by decide) (by decide) _ hob (.inr (.inl hS.symm))) (fun hS => own_foot HD4 HO4.out (by decide) (by decide) _ hob (.inr (.inr hS.symm))) (fun g' cs T hg' _ _ hS => by have hS' : g' = g := hS; omega)).at_
        have hH5 : Hlog w0 h t3 G2 D2 (w4.setCell ⟨g, 8 + q, none⟩ (.int .u8 (x ^^^ B).toNat)) :=
          ⟨HH4.out.log.chg hcg (fun k hk hS => by have h1 := HH3.out.log.lt k hk; have hS' : k = g := hS; omega), hdv, HH4.out.own, HH4.out.foot, HH4.out.chg.setCell (.inr (Nat.le_trans HH3.out.chg.size hgb)) _⟩
        obtain ⟨w5, hw5⟩ : ∃ w5, w5 = w4.setCell ⟨g, 8 + q, none⟩ (.int .u8 (x ^^^ B).toNat) := ⟨_, rfl⟩
        rw [← hw5] at hrx hH5
        have HH5 := Lib.hid hH5
        have hrx' : Rd w5 tU8 (some ⟨g, 0, none⟩) 384 (bys (px.set (8 + q) (x ^^^ B))) := by
          have e : bys (px.set (8 + q) (x ^^^ B)) = (bys px).set (8 + q) (.int .u8 (x ^^^ B).toNat) := by unfold bys; rw [List.map_set]
          rw [e]; exact hrx
        have HWR := Lib.hid (write_calls HH5.out.dev (p : Int) (some ⟨g, 0, none⟩) 384 c4 (px.set (8 + q) (x ^^^ B)) hrx' (by omega))
        have HRN := Lib.hid (HO2.out.renumbered (i := i + 1) (by omega) HG0.out hp4 hq8 HX.out (v := x ^^^ B) (by rw [← hx8]; exact HXB.out.2))
        have HW5 : Hid (w4.setCell ⟨g, 8 + q, none⟩ (.int .u8 (bits .xor .u8 (x.toNat : Int) (B.toNat : Int))) = w5) := by show _ = _; rw [HXB.out.1, hw5]
        have e1 : IntKind.i64.wrap (8 + (q : Int)) = 8 + (q : Int) := IntWalk.i64_in _ (by omega)
        have e2 : (8 + (q : Int)).toNat = 8 + q := by omega
        have e3 : 0 ≤ 8 + (q : Int) := by omega
        have e4 : 8 + (q : Int) < 384 := by omega
        clear hrx hrx' hH5 hdv hcg hw5 hx8 hob hgb
        go_wp2_with fail
        rw [HW5.out]
        refine HWR.out.mono ?_
        rintro e w6 ⟨rfl, hd6, hc6⟩
        have HH6 := Lib.hid (HH5.out.flash hd6 hc6)
        have HRE := Lib.hid (HH6.out.reopen HRN.out.2.2.1 HRN.out.2.1)
        clear hd6 hc6 HWR e1 e2 e3 e4
        go_wp2_with fail
        refine HRE.out.mono ?_
        rintro e w8 ⟨t8, rfl, hh8, hl8⟩
        have HH8 := Lib.hid hh8
        obtain ⟨num8, hnum8⟩ : ∃ num8, num8 = (Lg.opened (D2.write p (px.set (8 + q) (x ^^^ B))) 0 1).number := ⟨_, rfl⟩
        have hge : num ≤ num8 := by rw [HNM.out, hnum8]; exact HRN.out.2.2.2.2
        have HN8 := fun W => Lib.hid (fun hc : Chg No w8 W => gnum_calls (hh8.log.chgNo hc))
        have HNG := fun W => Lib.hid (fun hc : Chg No w8 W => gnum_calls (hl8.chgNo hc))
        rw [← hnum8] at HN8
        rw [HL3.out, ← HNM.out] at HNG
        have HI8 := Lib.hid (hh8.items0 HRN.out.2.2.2.1)
        clear hh8 hl8 hnum8
        go_wp2_with fail
        refine HI8.out.mono ?_
        rintro e w9 ⟨A9, c9, rfl, hc9⟩
        have HC9 := Lib.hid hc9
        clear hc9
        go_wp2_with fail
        refine ((HN8 _).out HC9.out).mono ?_
        rintro e w10 ⟨rfl, rfl⟩
        go_wp2_with fail
        refine ((HNG _).out HC9.out).mono ?_
        rintro e w11 ⟨rfl, rfl⟩
        go_wp2
        go_ret
        exact ⟨by simp, HC0.out.trans (HH8.out.chg.trans HC9.out)⟩
end Go.Proofs.Ytcmobcbecbajiaa
