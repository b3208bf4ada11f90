/- RegionSealed, walked. -/
import Derived.Test.YtcmobcbecbajiaaRegSe
namespace Go.Proofs.Ytcmobcbecbajiaa
open Go.RowKit
open Go.ChangeMaps (setBlock)
attribute [local go_sem ↓] Go.wp_at_zero Go.wp_at_succ
set_option linter.unusedSimpArgs false
set_option linter.unusedVariables false

theorem Hlog.items {w0 w : World} {h : DevH} {t : LgH} {G : Lg} {D : Dev} (H : Hlog w0 h t G D w) (h20 : G.regs.length < 20) :
    Calls Try.prog 32 #[.pointer (some ⟨t.L, 0, none⟩)] w fun e w' => ∃ v, e = .returned v ∧ w'.ownsRow w.heap.size tItem 5 v G.items.length (its G.items) ∧ Chg No w w' := by
  have hbl := byNum_len G.regs
  exact items_calls H.log h20 (byNum_lt _) (by omega)
theorem opTop_new (n r : Nat) : opTop (Dev.new n) 0 r = 0 := by
  have : (Lg.opened (Dev.new n) 0 r).number = 0 := by rw [opened_new]
  exact this
theorem sess_new (n r : Nat) (h1 : 1 ≤ r) (h2 : r ≤ 64) (h3 : 4 * r ≤ n) (h4 : n ≤ 4096) (P : Item → Prop) (a : Int) : Sess (Dev.new n) r (opTop (Dev.new n) 0 r) 0 P (Lg.opened (Dev.new n) 0 r) ((Dev.new n).arm a) := by
  have hl := live_new n r h1 h2 h3 h4
  exact .inl ⟨_, Alive.begin_ rfl (fun _ => rfl) (nums_new n r) hl.ok hl.nd h3 P a⟩
theorem sure_back {G G' : Lg} (hk : ∀ key, aget G'.keys key = aget G.keys key) (hr : G'.regs = G.regs) (ho : G.opn = []) (ho' : G'.opn = []) : ∀ x ∈ G.items, G'.get x.key = x ∧ G'.getE x.key = 0 := by
  intro x hx
  obtain ⟨p, h1, h2, _⟩ := items_mem hx
  have h3 : G'.item p = x := by
    rw [← h2]
    unfold Lg.item
    rw [hr, ho, ho']
  constructor
  · unfold Lg.get
    rw [hk, h1]
    exact h3
  · unfold Lg.getE Lg.has
    rw [hk, h1]; rfl
theorem cells6 {w W : World} {te : TypeId} {A : Option Addr} {n k : Nat} {l : List Item} {x : Item} (h : Rd w te A (n * 5) (its l)) (hk : k < n) (hx : l[k]? = some x) : ∃ g off, A = some ⟨g, off, none⟩ ∧ g < w.heap.size ∧ ∀ W : World, Chg No w W → W.cell? ⟨g, off + k * 5, none⟩ = some (.string x.key) ∧ W.cell? ⟨g, off + k * 5 + 1, none⟩ = some (.string x.val) ∧
      W.cell? ⟨g, off + k * 5 + 2, none⟩ = some (.int .u32 x.flags.toNat) ∧ W.cell? ⟨g, off + k * 5 + 3, none⟩ = some (.int .i64 x.exp.toInt) ∧ W.cell? ⟨g, off + k * 5 + 4, none⟩ = some (.int .u64 x.ver.toNat) := by
  obtain ⟨g, off, e1, h1, _⟩ := h.at_ (j := k * 5) (by omega)
  obtain ⟨g', off', e2, h2⟩ := rd_at6 h hk hx
  have e : g = g' ∧ off = off' := by rw [e1] at e2; simpa using e2
  obtain ⟨rfl, rfl⟩ := e
  exact ⟨g, off, e1, h1, h2⟩

theorem own_len {w : World} {v : Value} {base e size n : Nat} {xs : List Value} (h : w.ownsRow base e size v n xs) (hs : 0 < size) : n ≤ 9223372036854775807 := by
  rcases h.2 with ⟨_, e⟩ | ⟨g', cap, cur, _, _, _, hnc, hcm, _⟩
  · omega
  · unfold maxLen at hcm; omega

set_option maxRecDepth 100000 in
set_option maxHeartbeats 8000000 in
theorem rsealed_calls (z : Int) (A : Option Addr) (n c : Nat) (l : List Item) (te : TypeId) (y : Int) (Ap : Option Addr) (np cp : Nat) (picks : List UInt8) (tp : TypeId) (w : World) (hz : -9223372036854775808 ≤ z ∧ z ≤ 9223372036854775807) (hn : l.length = n) (hr : Rd w te A (n * 5) (its l)) (hs : ∀ x ∈ l, x.key.size ≤ 140737488351232 ∧ x.val.size ≤ 140737488351232) (hnm : n ≤ 9223372036854775807) (hy : y ≤ 9223372036854775807) (hpn : picks.length = np) (hpr : Rd w tp Ap np (bys picks)) :
    Calls Try.prog 10 #[.int .i64 z, .slice A n c, .int .i64 y, .slice Ap np cp] w fun e w' => e = .returned (.bool true) ∧ Chg No w w' := by
  have HA := Lib.hid (awake9_calls w)
  have HN := fun W => Lib.hid (new_calls 12 W (by omega) (by omega))
  have HR := Lib.hid hr
  have HNL := Lib.hid hn
  have HS := Lib.hid hs
  have HPN := Lib.hid hpn
  have HPR := Lib.hid hpr
  clear hr hn hs hpn hpr
  by_cases h1 : z < 1
  · go_enter Try.func10, Try.ntmps10
    go_wp2_with fail
    refine HA.out.mono ?_
    rintro e w0 ⟨rfl, hc0⟩
    have HC0 := Lib.hid hc0
    clear hc0 HA HN
    go_wp2
    go_ret
    exact ⟨rfl, HC0.out⟩
  by_cases h2 : 3 < z
  · go_enter Try.func10, Try.ntmps10
    go_wp2_with fail
    refine HA.out.mono ?_
    rintro e w0 ⟨rfl, hc0⟩
    have HC0 := Lib.hid hc0
    clear hc0 HA HN
    go_wp2
    go_ret
    exact ⟨rfl, HC0.out⟩
  by_cases h3 : 25 < n
  · have b3 : (25 : Int) < (n : Int) := by omega
    go_enter Try.func10, Try.ntmps10
    go_wp2_with fail
    refine HA.out.mono ?_
    rintro e w0 ⟨rfl, hc0⟩
    have HC0 := Lib.hid hc0
    clear hc0 HA HN
    go_wp2
    go_ret
    exact ⟨rfl, HC0.out⟩
  obtain ⟨r, rfl⟩ := Int.eq_ofNat_of_zero_le (show 0 ≤ z by omega)
  have hr1 : 1 ≤ r := by omega
  have hr3 : r ≤ 3 := by omega
  have hn25 : n ≤ 25 := by omega
  have b3 : ¬ (25 : Int) < (n : Int) := by omega
  clear h3
  go_enter Try.func10, Try.ntmps10
  go_wp2_with fail
  refine HA.out.mono ?_
  rintro e w0 ⟨rfl, hc0⟩
  have HC0 := Lib.hid hc0
  clear hc0 HA
  go_wp2_with fail
  refine (HN _).out.mono ?_
  rintro e w1 ⟨h, rfl, hd1, hc1, hf1⟩
  have HOP := Lib.hid (Hlog.opened (first := 0) (n := r) hd1 hf1 hc1 hr1 (by omega) (by show 0 + 4 * r ≤ (12 : Nat); omega) rfl)
  rw [show Dev.new (12 : Int).toNat = Dev.new 12 from rfl] at HOP
  have HF := Lib.hid hf1
  have HNU0 := Lib.hid (nums_new 12 r)
  have HSES0 := Lib.hid (sess_new 12 r hr1 (by omega) (by omega) (by omega) (fun x => x ∈ l) y)
  have HZ0 := Lib.hid (opTop_new 12 r)
  obtain ⟨D0, hD0⟩ : ∃ D0, D0 = Dev.new 12 := ⟨_, rfl⟩
  rw [← hD0] at HOP HSES0 HZ0 HNU0
  have HI0 : Hid ((Lg.opened D0 0 r).items = []) := by
    show _ = _
    have e : byNum (List.replicate r Sealed.no) = [] := by
      cases hb : byNum (List.replicate r Sealed.no) with
      | nil => rfl
      | cons i q =>
        have := byNum_pos (show i ∈ byNum (List.replicate r Sealed.no) by rw [hb]; simp)
        unfold rnum at this
        simp only [List.getD_eq_getElem?_getD, List.getElem?_replicate] at this
        split at this <;> simp [Sealed.no] at this
    rw [hD0, opened_new]
    unfold Lg.items
    simp only [e]
    rfl
  clear hd1 hc1 hf1 HN
  go_wp2_with fail
  refine HOP.out.mono ?_
  rintro e w2 ⟨t0, rfl, hh2, _, hc2⟩
  have HH2 := Lib.hid hh2
  have HARM := Lib.hid (arm_calls hh2.dev y hy)
  obtain ⟨G0, hG0⟩ : ∃ G0, G0 = Lg.opened D0 0 r := ⟨_, rfl⟩
  have HG0 := Lib.hid hG0
  rw [← hG0] at HH2 HSES0
  clear hh2 hc2 HOP hG0 hD0
  go_wp2_with fail
  refine HARM.out.mono ?_
  rintro e w3 ⟨rfl, hd3, hc3⟩
  have HH3 := Lib.hid (HH2.out.flash hd3 hc3)
  clear hd3 hc3 HARM
  go_wp2
  go_loopg [13] n (fun gk vi wr => ∃ i : Nat, gk = n - i ∧ i ≤ n ∧ vi = .int .i64 i ∧ Hid (∃ (t : LgH) (G : Lg) (D : Dev), t.L = t0.L ∧ Hlog w0 h t G D wr ∧ Sess D0 r (opTop D0 0 r) i (fun x => x ∈ l) G D))
  case atStart => exact ⟨0, rfl, Nat.zero_le _, rfl, t0, G0, _, rfl, HH3.out, HSES0.out⟩
  case round =>
    obtain ⟨i, rfl, hi, rfl, t, G, D, hL, HH, HO⟩ := hrel
    by_cases hlt : i < n
    · obtain ⟨x, hx⟩ : ∃ x, l[i]? = some x := ⟨_, List.getElem?_eq_getElem (by rw [HNL.out]; exact hlt)⟩
      have hsx := HS.out x (List.mem_of_getElem? hx)
      obtain ⟨g, off, hA, hg, hc⟩ := cells6 (W := wr) (HR.out.chg (HC0.out.trans HH.chg) (fun _ _ _ _ h => h)) hlt hx
      subst hA
      have ⟨c0, c1, c2, c3, c4⟩ := hc wr (Chg.refl _ _)
      have hii : (i : Int) < (n : Int) := by omega
      have HPUT := Lib.hid (HH.put x hsx.1 hsx.2)
      rw [hL] at HPUT
      have HO2 := Lib.hid (HO.put (by rw [HZ0.out]; omega) (List.mem_of_getElem? hx))
      have HLL := Lib.hid hL
      obtain ⟨R, hR⟩ : ∃ R, R = G.put D x := ⟨_, rfl⟩
      rw [← hR] at HPUT HO2
      clear hsx hx hc HO hL hR HH HH2 HH3 HSES0
      go_wp2_with fail
      refine HPUT.out.mono ?_
      rintro e w4 ⟨v3, t3, rfl, hp⟩
      have HH4 := Lib.hid hp.st
      have HL4 : Hid (t3.L = t0.L) := hp.L.trans HLL.out
      clear hp HPUT
      go_wp2
      go_roundg (n - (i + 1))
      case measure => omega
      case rel => exact ⟨i + 1, rfl, by omega, by go_num, t3, _, _, HL4.out, HH4.out, HO2.out⟩
    · obtain rfl : i = n := by omega
      have HSE := Lib.hid HH.shut
      have hsl := HO.sl (by rw [HZ0.out]; omega)
      rw [hL] at HSE
      obtain ⟨G2, D2, lost, er, hRe⟩ : ∃ G2 D2 lost er, G.sl D = ⟨G2, D2, lost, er⟩ := ⟨_, _, _, _, rfl⟩
      rw [hRe] at HSE hsl
      have HSS := Lib.hid hsl.1
      have HOK : Hid (er = 0 → (∃ L, Alive D0 r (opTop D0 0 r) (i + 1) (fun x => x ∈ l) G2 D2 L) ∧ G2.opn = []) := hsl.2
      have HLL := Lib.hid hL
      clear hlt hsl hRe HH2 HH3 HSES0
      go_wp2_with fail
      refine HSE.out.mono ?_
      rintro e w4 ⟨v3, t3, rfl, hp⟩
      have HH4 : Hid (Hlog w0 h t3 G2 D2 w4) := hp.st
      have HL4 : Hid (t3.L = t0.L) := hp.L.trans HLL.out
      clear hp HSE HO HH
      obtain ⟨N, L, W, fl, hN, hE⟩ := HSS.out.ends (by omega) (by rw [HZ0.out]; omega) picks
      have HEN := Lib.hid hE
      have HNM : Hid (Nums (Lg.opened (D2.crash picks).on 0 r)) := hE.nums (by omega) HNU0.out rfl
      have HIT : Hid (∀ x ∈ (Lg.opened (D2.crash picks).on 0 r).items, x ∈ l) := fun x hx => by
        rcases hE.items (by omega) HNU0.out rfl x hx with h | h
        · exact h
        · rw [HI0.out] at h; cases h
      have HFIT : Hid (4 * r ≤ (D2.crash picks).on.n) := hE.nn
      have HFA : ∀ W, Hid (Chg No w W → ∀ W', Chg h.foot W W' → Chg No w W') := fun W => fun h1 W' h2 => h1.then h2 (fun i hi hT => by have := HF.out i hT; have := HC0.out.size; omega)
      have HCR : ∀ W, Hid (Hlog w0 h t3 G2 D2 W → Calls Try.prog 39 #[.pointer (some ⟨h.d, 0, none⟩), .slice Ap np cp] W fun e w' => e = .returned (.tuple #[]) ∧ DevAt w' h (D2.crash picks) ∧ Chg h.foot W w') := fun W => fun H =>
        crash_calls H.dev Ap np cp picks tp HPN.out (fun W' hc => HPR.out.chg ((HFA _).out (HC0.out.trans H.chg) _ hc) (fun _ _ _ _ h => h))
      obtain ⟨D1, hD1⟩ : ∃ D1, D1 = (D2.crash picks).on := ⟨_, rfl⟩
      rw [← hD1] at HNM HIT HFIT
      have HD1 := Lib.hid hD1
      clear hN hE hD1
      by_cases her : er = 0
      · subst her
        obtain ⟨⟨L2, hAL⟩, hop⟩ := HOK.out rfl
        have hlast := hAL.lasts hop picks (by rw [← HD1.out]; exact HNM.out)
        rw [← HD1.out] at hlast
        have HSU : Hid (∀ x ∈ G2.items, (Lg.opened D1 0 r).get x.key = x ∧ (Lg.opened D1 0 r).getE x.key = 0) := sure_back hlast.1 hlast.2 hop rfl
        have HIS := Lib.hid (HH4.out.items (by rw [hAL.len]; omega))
        rw [HL4.out] at HIS
        clear hAL hop hlast HOK
        by_cases h0 : 0 < i
        · have h0i : (0 : Int) < (i : Int) := by omega
          go_wp2_with fail
          refine HIS.out.mono ?_
          rintro e w5 ⟨v5, rfl, ho5, hc5⟩
          have HH5 := Lib.hid (HH4.out.chgNo hc5)
          have HO5 := Lib.hid ho5
          clear ho5 hc5 HIS
          obtain ⟨As, cs, rfl, hncs, hrs⟩ := own_slice HO5.out
          have hnsm := own_len HO5.out (by omega)
          have HSUR := Lib.hid hrs
          obtain ⟨su, hsu⟩ : ∃ su, su = G2.items := ⟨_, rfl⟩
          rw [← hsu] at HSU HSUR hncs hnsm ⊢
          obtain ⟨ns, hns⟩ : ∃ ns, ns = su.length := ⟨_, rfl⟩
          rw [← hns] at HSUR hncs hnsm ⊢
          have HSUL := Lib.hid hns
          clear hrs HO5 hsu hns
          go_wp2_with fail
          refine ((HCR _).out HH5.out).mono ?_
          rintro e w6 ⟨rfl, hd6, hc6⟩
          have HH6 := Lib.hid (HH5.out.flash hd6 hc6)
          have HSU6 := Lib.hid (HSUR.out.chg hc6 (fun g cur fz hg => DevN.not_foot HH5.out.dev hg (by decide) (by decide)))
          have HON := Lib.hid (on_calls hd6)
          clear hd6 hc6 HCR HSUR
          go_wp2_with fail
          refine HON.out.mono ?_
          rintro e w7 ⟨rfl, hd7, hc7⟩
          have HH7 := Lib.hid (HH6.out.flash hd7 hc7)
          rw [← HD1.out] at HH7
          have HSU7 := Lib.hid (HSU6.out.chg hc7 (fun g cur fz hg => DevN.not_foot HH6.out.dev hg (by decide) (by decide)))
          have HOP := Lib.hid (Hlog.opened (first := 0) (n := r) HH7.out.dev HH7.out.foot HH7.out.chg hr1 (by omega) (by rw [Nat.zero_add]; exact HFIT.out) (by rw [HD1.out]; rfl))
          clear hd7 hc7 HON HSU6
          go_wp2_with fail
          refine HOP.out.mono ?_
          rintro e w8 ⟨t8, rfl, hh8, _, hc8⟩
          have HH8 := Lib.hid hh8
          have HSU8 := Lib.hid (HSU7.out.chg hc8 (fun g cur fz hg => DevN.not_foot HH7.out.dev hg (by decide) (by decide)))
          have HI8 := Lib.hid (hh8.items (by rw [opened_len]; omega))
          have HGT := fun W => fun key => Lib.hid (fun hc : Chg No w8 W => gget_calls (hh8.log.chgNo hc) key)
          obtain ⟨G8, hG8⟩ : ∃ G8, G8 = Lg.opened D1 0 r := ⟨_, rfl⟩
          rw [← hG8] at HI8 HIT HSU HGT
          obtain ⟨a, ha⟩ : ∃ a, a = G8.items := ⟨_, rfl⟩
          rw [← ha] at HI8 HIT
          obtain ⟨na, hna⟩ : ∃ na, na = a.length := ⟨_, rfl⟩
          rw [← hna] at HI8
          have HNA := Lib.hid hna
          clear hh8 hc8 HOP HSU7 hG8 ha hna
          go_wp2_with fail
          refine HI8.out.mono ?_
          rintro e w9 ⟨v9, rfl, ho9, hc9⟩
          obtain ⟨A9, c9, rfl, hn9, hr9⟩ := own_slice ho9
          have hna9 := own_len ho9 (by omega)
          have HR9 := Lib.hid hr9
          have HC9 := Lib.hid hc9
          have HSU9 := Lib.hid (HSU8.out.chg hc9 (fun _ _ _ _ h => h))
          have HW9 : Hid (Chg No w w9) := HC0.out.trans (HH8.out.chg.trans HC9.out)
          clear ho9 hc9 hr9 HI8 HSU8 HS HH4 HH5 HH6 HH7
          go_wp2
          go_loopg [18] na (fun gk vi wz => ∃ q : Nat, gk = na - q ∧ q ≤ na ∧ vi = .int .i64 q ∧ Hid (Chg No w9 wz))
          case atStart => exact ⟨0, rfl, Nat.zero_le _, rfl, Chg.refl _ _⟩
          case round =>
            obtain ⟨q, rfl, hq, rfl, K⟩ := hrel
            by_cases hlt : q < na
            · obtain ⟨x, hx⟩ : ∃ x, a[q]? = some x := ⟨_, List.getElem?_eq_getElem (by rw [← HNA.out]; exact hlt)⟩
              have hxl := HIT.out x (List.mem_of_getElem? hx)
              obtain ⟨gx, ox, eA, hgx, hcx⟩ := cells6 (W := wr) HR9.out hlt hx
              subst eA
              have HCX : ∀ W, Hid (Chg No w9 W → _) := fun W => hcx W
              have hqq : (q : Int) < (na : Int) := by omega
              have HXL := Lib.hid hxl
              have HANY : Hid (l.any (fun y => decide (y = x)) = true) := by show _ = _; rw [List.any_eq_true]; exact ⟨x, hxl, by simp⟩
              have HLT := Lib.hid hlt
              clear hx hxl hcx hlt
              obtain ⟨wo, rfl⟩ : ∃ wo : World, wo = wr := ⟨_, rfl⟩
              go_wp2
              go_loopg [19, 20] i (fun gk vb vk wy => ∃ (k : Nat) (b : Bool), gk = i - k ∧ k ≤ i ∧ vb = .bool b ∧ vk = .int .i64 k ∧ Hid (b = (l.take k).any (fun y => decide (y = x)) ∧ Chg No wo wy))
              case atStart => exact ⟨0, false, rfl, Nat.zero_le _, rfl, rfl, rfl, Chg.refl _ _⟩
              case round =>
                obtain ⟨k, b, rfl, hk, rfl, rfl, hb, K2⟩ := hrel
                by_cases hkl : k < i
                · obtain ⟨y, hy⟩ : ∃ y, l[k]? = some y := ⟨_, List.getElem?_eq_getElem (by rw [HNL.out]; exact hkl)⟩
                  obtain ⟨gy, oy, eA, hgy, hcy⟩ := cells6 (W := wr) (HR.out.chg (HW9.out.trans (K.out.trans K2)) (fun _ _ _ _ h => h)) hkl hy
                  subst eA
                  have ⟨y0, y1, y2, y3, y4⟩ := hcy wr (Chg.refl _ _)
                  have ⟨x0, x1, x2, x3, x4⟩ := (HCX wr).out (K.out.trans K2)
                  have hkk : (k : Int) < (i : Int) := by omega
                  have HANS : Hid ((l.take (k + 1)).any (fun y => decide (y = x)) = ((l.take k).any (fun y => decide (y = x)) || decide (y = x))) := by show _ = _; rw [List.take_add_one, hy, List.any_append]; simp
                  have HK2 := Lib.hid K2
                  have HB := Lib.hid hb
                  clear hy hcy hkl hb K2
                  cases b with
                  | true =>
                    go_wp2_with fail
                    go_quiet (fail)
                    go_wp2
                    go_roundg (i - (k + 1))
                    case measure => omega
                    case rel => exact ⟨k + 1, true, rfl, by omega, rfl, by go_num, by rw [HANS.out, ← HB.out]; rfl, HK2.out.trans (by (repeat (first | (with_reducible exact Chg.refl _ _) | (with_reducible assumption) | (with_reducible refine Chg.drewN ?_ _) | (with_reducible refine Chg.drew ?_) | (with_reducible refine Chg.alloc ?_ _) | (with_reducible refine Chg.setCell ?_ (by first | (left; simp [DevH.foot]; done) | (right; simp; done) | (right; simp; omega)) _))))⟩
                  | false =>
                    by_cases hyx : y = x
                    · have heq : ∀ W : World, (binOp .eql tItem (itemV y) (itemV x)).run Try.prog W = .ok (.bool true) W := fun W => by rw [run_eql_item, decide_eq_true hyx]
                      have HYX := Lib.hid hyx
                      clear hyx
                      go_wp2_with fail
                      go_quiet (fail)
                      go_wp2
                      go_roundg (i - (k + 1))
                      case measure => omega
                      case rel => exact ⟨k + 1, true, rfl, by omega, rfl, by go_num, by rw [HANS.out, HYX.out]; simp, HK2.out.trans (by (repeat (first | (with_reducible exact Chg.refl _ _) | (with_reducible assumption) | (with_reducible refine Chg.drewN ?_ _) | (with_reducible refine Chg.drew ?_) | (with_reducible refine Chg.alloc ?_ _) | (with_reducible refine Chg.setCell ?_ (by first | (left; simp [DevH.foot]; done) | (right; simp; done) | (right; simp; omega)) _))))⟩
                    · have heq : ∀ W : World, (binOp .eql tItem (itemV y) (itemV x)).run Try.prog W = .ok (.bool false) W := fun W => by rw [run_eql_item, decide_eq_false hyx]
                      have HYX := Lib.hid hyx
                      clear hyx
                      go_wp2_with fail
                      go_quiet (fail)
                      go_wp2
                      go_roundg (i - (k + 1))
                      case measure => omega
                      case rel => exact ⟨k + 1, false, rfl, by omega, rfl, by go_num, by rw [HANS.out, ← HB.out, decide_eq_false HYX.out]; rfl, HK2.out.trans (by (repeat (first | (with_reducible exact Chg.refl _ _) | (with_reducible assumption) | (with_reducible refine Chg.drewN ?_ _) | (with_reducible refine Chg.drew ?_) | (with_reducible refine Chg.alloc ?_ _) | (with_reducible refine Chg.setCell ?_ (by first | (left; simp [DevH.foot]; done) | (right; simp; done) | (right; simp; omega)) _))))⟩
                · obtain rfl : k = i := by omega
                  obtain rfl : true = b := by rw [hb, List.take_of_length_le (by rw [HNL.out]; exact Nat.le_refl _)]; exact HANY.out.symm
                  have HK2 := Lib.hid K2
                  clear hb K2 hkl
                  go_wp2
                  go_roundg (na - (q + 1))
                  case measure => omega
                  case rel => exact ⟨q + 1, rfl, by have := HLT.out; omega, by go_num, K.out.trans HK2.out⟩
            · have HK := Lib.hid K
              obtain ⟨wo, rfl⟩ : ∃ wo : World, wo = wr := ⟨_, rfl⟩
              clear K
              go_wp2
              go_loopg [21] ns (fun gk vi wz => ∃ p : Nat, gk = ns - p ∧ p ≤ ns ∧ vi = .int .i64 p ∧ Hid (Chg No wo wz))
              case atStart => exact ⟨0, rfl, Nat.zero_le _, rfl, Chg.refl _ _⟩
              case round =>
                obtain ⟨p, rfl, hp, rfl, K⟩ := hrel
                by_cases hpn : p < ns
                · obtain ⟨x, hx⟩ : ∃ x, su[p]? = some x := ⟨_, List.getElem?_eq_getElem (by rw [← HSUL.out]; exact hpn)⟩
                  have hxs := HSU.out x (List.mem_of_getElem? hx)
                  have HG := Lib.hid ((HGT wr x.key).out (HC9.out.trans (HK.out.trans K.out)))
                  rw [hxs.1, hxs.2] at HG
                  obtain ⟨gx, ox, eA, hgx, hcx⟩ := cells6 (W := wr) (HSU9.out.chg (HK.out.trans K.out) (fun _ _ _ _ h => h)) hpn hx
                  subst eA
                  have HCX : ∀ W, Hid (Chg No wr W → _) := fun W => hcx W
                  have ⟨x0, _, _, _, _⟩ := (HCX wr).out (Chg.refl _ _)
                  have hpp : (p : Int) < (ns : Int) := by omega
                  have HPN2 := Lib.hid hpn
                  clear hx hxs hcx hpn
                  go_wp2_with fail
                  refine HG.out.mono ?_
                  rintro e w4 ⟨rfl, hc4⟩
                  have HC4 := Lib.hid hc4
                  have ⟨x0, x1, x2, x3, x4⟩ := (HCX w4).out hc4
                  have hgw : gx < w4.heap.size := Nat.lt_of_lt_of_le hgx hc4.size
                  have heq : ∀ W : World, (binOp .neq tItem (itemV x) (itemV x)).run Try.prog W = .ok (.bool false) W := fun W => by rw [run_neq_item]; simp
                  clear hc4 HG
                  go_wp2_with fail
                  go_quiet (fail)
                  go_wp2
                  go_roundg (ns - (p + 1))
                  case measure => omega
                  case rel => exact ⟨p + 1, rfl, by have := HPN2.out; omega, by go_num, (K.out.trans HC4.out).trans (by (repeat (first | (with_reducible exact Chg.refl _ _) | (with_reducible assumption) | (with_reducible refine Chg.drewN ?_ _) | (with_reducible refine Chg.drew ?_) | (with_reducible refine Chg.alloc ?_ _) | (with_reducible refine Chg.setCell ?_ (by first | (left; simp [DevH.foot]; done) | (right; simp; done) | (right; simp; omega)) _))))⟩
                · obtain rfl : p = ns := by omega
                  go_wp2
                  go_ret
                  exact ⟨rfl, HW9.out.trans (HK.out.trans K.out)⟩
        · have hi0 : ¬ (0 : Int) < (i : Int) := by omega
          have HH5 := HH4
          have HSUR : Hid (Rd w4 tItem none (0 * 5) (its [])) := Rd.nil _ _ _
          clear HSU HIS
          have HSU : Hid (∀ x ∈ ([] : List Item), (Lg.opened D1 0 r).get x.key = x ∧ (Lg.opened D1 0 r).getE x.key = 0) := fun x hx => by cases hx
          go_wp2_with fail
          refine ((HCR _).out HH5.out).mono ?_
          rintro e w6 ⟨rfl, hd6, hc6⟩
          have HH6 := Lib.hid (HH5.out.flash hd6 hc6)
          have HSU6 := Lib.hid (HSUR.out.chg hc6 (fun g cur fz hg => DevN.not_foot HH5.out.dev hg (by decide) (by decide)))
          have HON := Lib.hid (on_calls hd6)
          clear hd6 hc6 HCR HSUR
          go_wp2_with fail
          refine HON.out.mono ?_
          rintro e w7 ⟨rfl, hd7, hc7⟩
          have HH7 := Lib.hid (HH6.out.flash hd7 hc7)
          rw [← HD1.out] at HH7
          have HSU7 := Lib.hid (HSU6.out.chg hc7 (fun g cur fz hg => DevN.not_foot HH6.out.dev hg (by decide) (by decide)))
          have HOP := Lib.hid (Hlog.opened (first := 0) (n := r) HH7.out.dev HH7.out.foot HH7.out.chg hr1 (by omega) (by rw [Nat.zero_add]; exact HFIT.out) (by rw [HD1.out]; rfl))
          clear hd7 hc7 HON HSU6
          go_wp2_with fail
          refine HOP.out.mono ?_
          rintro e w8 ⟨t8, rfl, hh8, _, hc8⟩
          have HH8 := Lib.hid hh8
          have HSU8 := Lib.hid (HSU7.out.chg hc8 (fun g cur fz hg => DevN.not_foot HH7.out.dev hg (by decide) (by decide)))
          have HI8 := Lib.hid (hh8.items (by rw [opened_len]; omega))
          have HGT := fun W => fun key => Lib.hid (fun hc : Chg No w8 W => gget_calls (hh8.log.chgNo hc) key)
          obtain ⟨G8, hG8⟩ : ∃ G8, G8 = Lg.opened D1 0 r := ⟨_, rfl⟩
          rw [← hG8] at HI8 HIT HSU HGT
          obtain ⟨a, ha⟩ : ∃ a, a = G8.items := ⟨_, rfl⟩
          rw [← ha] at HI8 HIT
          obtain ⟨na, hna⟩ : ∃ na, na = a.length := ⟨_, rfl⟩
          rw [← hna] at HI8
          have HNA := Lib.hid hna
          clear hh8 hc8 HOP HSU7 hG8 ha hna
          go_wp2_with fail
          refine HI8.out.mono ?_
          rintro e w9 ⟨v9, rfl, ho9, hc9⟩
          obtain ⟨A9, c9, rfl, hn9, hr9⟩ := own_slice ho9
          have hna9 := own_len ho9 (by omega)
          have HR9 := Lib.hid hr9
          have HC9 := Lib.hid hc9
          have HSU9 := Lib.hid (HSU8.out.chg hc9 (fun _ _ _ _ h => h))
          have HW9 : Hid (Chg No w w9) := HC0.out.trans (HH8.out.chg.trans HC9.out)
          clear ho9 hc9 hr9 HI8 HSU8 HS HH4 HH5 HH6 HH7
          go_wp2
          go_loopg [18] na (fun gk vi wz => ∃ q : Nat, gk = na - q ∧ q ≤ na ∧ vi = .int .i64 q ∧ Hid (Chg No w9 wz))
          case atStart => exact ⟨0, rfl, Nat.zero_le _, rfl, Chg.refl _ _⟩
          case round =>
            obtain ⟨q, rfl, hq, rfl, K⟩ := hrel
            by_cases hlt : q < na
            · obtain ⟨x, hx⟩ : ∃ x, a[q]? = some x := ⟨_, List.getElem?_eq_getElem (by rw [← HNA.out]; exact hlt)⟩
              have hxl := HIT.out x (List.mem_of_getElem? hx)
              obtain ⟨gx, ox, eA, hgx, hcx⟩ := cells6 (W := wr) HR9.out hlt hx
              subst eA
              have HCX : ∀ W, Hid (Chg No w9 W → _) := fun W => hcx W
              have hqq : (q : Int) < (na : Int) := by omega
              have HXL := Lib.hid hxl
              have HANY : Hid (l.any (fun y => decide (y = x)) = true) := by show _ = _; rw [List.any_eq_true]; exact ⟨x, hxl, by simp⟩
              have HLT := Lib.hid hlt
              clear hx hxl hcx hlt
              obtain ⟨wo, rfl⟩ : ∃ wo : World, wo = wr := ⟨_, rfl⟩
              go_wp2
              go_loopg [19, 20] i (fun gk vb vk wy => ∃ (k : Nat) (b : Bool), gk = i - k ∧ k ≤ i ∧ vb = .bool b ∧ vk = .int .i64 k ∧ Hid (b = (l.take k).any (fun y => decide (y = x)) ∧ Chg No wo wy))
              case atStart => exact ⟨0, false, rfl, Nat.zero_le _, rfl, rfl, rfl, Chg.refl _ _⟩
              case round =>
                obtain ⟨k, b, rfl, hk, rfl, rfl, hb, K2⟩ := hrel
                by_cases hkl : k < i
                · obtain ⟨y, hy⟩ : ∃ y, l[k]? = some y := ⟨_, List.getElem?_eq_getElem (by rw [HNL.out]; exact hkl)⟩
                  obtain ⟨gy, oy, eA, hgy, hcy⟩ := cells6 (W := wr) (HR.out.chg (HW9.out.trans (K.out.trans K2)) (fun _ _ _ _ h => h)) hkl hy
                  subst eA
                  have ⟨y0, y1, y2, y3, y4⟩ := hcy wr (Chg.refl _ _)
                  have ⟨x0, x1, x2, x3, x4⟩ := (HCX wr).out (K.out.trans K2)
                  have hkk : (k : Int) < (i : Int) := by omega
                  have HANS : Hid ((l.take (k + 1)).any (fun y => decide (y = x)) = ((l.take k).any (fun y => decide (y = x)) || decide (y = x))) := by show _ = _; rw [List.take_add_one, hy, List.any_append]; simp
                  have HK2 := Lib.hid K2
                  have HB := Lib.hid hb
                  clear hy hcy hkl hb K2
                  cases b with
                  | true =>
                    go_wp2_with fail
                    go_quiet (fail)
                    go_wp2
                    go_roundg (i - (k + 1))
                    case measure => omega
                    case rel => exact ⟨k + 1, true, rfl, by omega, rfl, by go_num, by rw [HANS.out, ← HB.out]; rfl, HK2.out.trans (by (repeat (first | (with_reducible exact Chg.refl _ _) | (with_reducible assumption) | (with_reducible refine Chg.drewN ?_ _) | (with_reducible refine Chg.drew ?_) | (with_reducible refine Chg.alloc ?_ _) | (with_reducible refine Chg.setCell ?_ (by first | (left; simp [DevH.foot]; done) | (right; simp; done) | (right; simp; omega)) _))))⟩
                  | false =>
                    by_cases hyx : y = x
                    · have heq : ∀ W : World, (binOp .eql tItem (itemV y) (itemV x)).run Try.prog W = .ok (.bool true) W := fun W => by rw [run_eql_item, decide_eq_true hyx]
                      have HYX := Lib.hid hyx
                      clear hyx
                      go_wp2_with fail
                      go_quiet (fail)
                      go_wp2
                      go_roundg (i - (k + 1))
                      case measure => omega
                      case rel => exact ⟨k + 1, true, rfl, by omega, rfl, by go_num, by rw [HANS.out, HYX.out]; simp, HK2.out.trans (by (repeat (first | (with_reducible exact Chg.refl _ _) | (with_reducible assumption) | (with_reducible refine Chg.drewN ?_ _) | (with_reducible refine Chg.drew ?_) | (with_reducible refine Chg.alloc ?_ _) | (with_reducible refine Chg.setCell ?_ (by first | (left; simp [DevH.foot]; done) | (right; simp; done) | (right; simp; omega)) _))))⟩
                    · have heq : ∀ W : World, (binOp .eql tItem (itemV y) (itemV x)).run Try.prog W = .ok (.bool false) W := fun W => by rw [run_eql_item, decide_eq_false hyx]
                      have HYX := Lib.hid hyx
                      clear hyx
                      go_wp2_with fail
                      go_quiet (fail)
                      go_wp2
                      go_roundg (i - (k + 1))
                      case measure => omega
                      case rel => exact ⟨k + 1, false, rfl, by omega, rfl, by go_num, by rw [HANS.out, ← HB.out, decide_eq_false HYX.out]; rfl, HK2.out.trans (by (repeat (first | (with_reducible exact Chg.refl _ _) | (with_reducible assumption) | (with_reducible refine Chg.drewN ?_ _) | (with_reducible refine Chg.drew ?_) | (with_reducible refine Chg.alloc ?_ _) | (with_reducible refine Chg.setCell ?_ (by first | (left; simp [DevH.foot]; done) | (right; simp; done) | (right; simp; omega)) _))))⟩
                · obtain rfl : k = i := by omega
                  obtain rfl : true = b := by rw [hb, List.take_of_length_le (by rw [HNL.out]; exact Nat.le_refl _)]; exact HANY.out.symm
                  have HK2 := Lib.hid K2
                  clear hb K2 hkl
                  go_wp2
                  go_roundg (na - (q + 1))
                  case measure => omega
                  case rel => exact ⟨q + 1, rfl, by have := HLT.out; omega, by go_num, K.out.trans HK2.out⟩
            · have HK := Lib.hid K
              obtain ⟨wo, rfl⟩ : ∃ wo : World, wo = wr := ⟨_, rfl⟩
              clear K
              go_wp2
              go_loopg [21] 0 (fun gk vi wz => gk = 0 ∧ vi = .int .i64 0 ∧ Hid (Chg No wo wz))
              case atStart => exact ⟨rfl, rfl, Chg.refl _ _⟩
              case round =>
                obtain ⟨rfl, rfl, K⟩ := hrel
                go_wp2
                go_ret
                exact ⟨rfl, HW9.out.trans (HK.out.trans K)⟩
      · have her0 : (er == 0) = false := by simpa using her
        have HH5 := HH4
        have HSUR : Hid (Rd w4 tItem none (0 * 5) (its [])) := Rd.nil _ _ _
        have HSU : Hid (∀ x ∈ ([] : List Item), (Lg.opened D1 0 r).get x.key = x ∧ (Lg.opened D1 0 r).getE x.key = 0) := fun x hx => by cases hx
        clear HOK
        go_wp2_with fail
        refine ((HCR _).out HH5.out).mono ?_
        rintro e w6 ⟨rfl, hd6, hc6⟩
        have HH6 := Lib.hid (HH5.out.flash hd6 hc6)
        have HSU6 := Lib.hid (HSUR.out.chg hc6 (fun g cur fz hg => DevN.not_foot HH5.out.dev hg (by decide) (by decide)))
        have HON := Lib.hid (on_calls hd6)
        clear hd6 hc6 HCR HSUR
        go_wp2_with fail
        refine HON.out.mono ?_
        rintro e w7 ⟨rfl, hd7, hc7⟩
        have HH7 := Lib.hid (HH6.out.flash hd7 hc7)
        rw [← HD1.out] at HH7
        have HSU7 := Lib.hid (HSU6.out.chg hc7 (fun g cur fz hg => DevN.not_foot HH6.out.dev hg (by decide) (by decide)))
        have HOP := Lib.hid (Hlog.opened (first := 0) (n := r) HH7.out.dev HH7.out.foot HH7.out.chg hr1 (by omega) (by rw [Nat.zero_add]; exact HFIT.out) (by rw [HD1.out]; rfl))
        clear hd7 hc7 HON HSU6
        go_wp2_with fail
        refine HOP.out.mono ?_
        rintro e w8 ⟨t8, rfl, hh8, _, hc8⟩
        have HH8 := Lib.hid hh8
        have HSU8 := Lib.hid (HSU7.out.chg hc8 (fun g cur fz hg => DevN.not_foot HH7.out.dev hg (by decide) (by decide)))
        have HI8 := Lib.hid (hh8.items (by rw [opened_len]; omega))
        have HGT := fun W => fun key => Lib.hid (fun hc : Chg No w8 W => gget_calls (hh8.log.chgNo hc) key)
        obtain ⟨G8, hG8⟩ : ∃ G8, G8 = Lg.opened D1 0 r := ⟨_, rfl⟩
        rw [← hG8] at HI8 HIT HSU HGT
        obtain ⟨a, ha⟩ : ∃ a, a = G8.items := ⟨_, rfl⟩
        rw [← ha] at HI8 HIT
        obtain ⟨na, hna⟩ : ∃ na, na = a.length := ⟨_, rfl⟩
        rw [← hna] at HI8
        have HNA := Lib.hid hna
        clear hh8 hc8 HOP HSU7 hG8 ha hna
        go_wp2_with fail
        refine HI8.out.mono ?_
        rintro e w9 ⟨v9, rfl, ho9, hc9⟩
        obtain ⟨A9, c9, rfl, hn9, hr9⟩ := own_slice ho9
        have hna9 := own_len ho9 (by omega)
        have HR9 := Lib.hid hr9
        have HC9 := Lib.hid hc9
        have HSU9 := Lib.hid (HSU8.out.chg hc9 (fun _ _ _ _ h => h))
        have HW9 : Hid (Chg No w w9) := HC0.out.trans (HH8.out.chg.trans HC9.out)
        clear ho9 hc9 hr9 HI8 HSU8 HS HH4 HH5 HH6 HH7
        go_wp2
        go_loopg [18] na (fun gk vi wz => ∃ q : Nat, gk = na - q ∧ q ≤ na ∧ vi = .int .i64 q ∧ Hid (Chg No w9 wz))
        case atStart => exact ⟨0, rfl, Nat.zero_le _, rfl, Chg.refl _ _⟩
        case round =>
          obtain ⟨q, rfl, hq, rfl, K⟩ := hrel
          by_cases hlt : q < na
          · obtain ⟨x, hx⟩ : ∃ x, a[q]? = some x := ⟨_, List.getElem?_eq_getElem (by rw [← HNA.out]; exact hlt)⟩
            have hxl := HIT.out x (List.mem_of_getElem? hx)
            obtain ⟨gx, ox, eA, hgx, hcx⟩ := cells6 (W := wr) HR9.out hlt hx
            subst eA
            have HCX : ∀ W, Hid (Chg No w9 W → _) := fun W => hcx W
            have hqq : (q : Int) < (na : Int) := by omega
            have HXL := Lib.hid hxl
            have HANY : Hid (l.any (fun y => decide (y = x)) = true) := by show _ = _; rw [List.any_eq_true]; exact ⟨x, hxl, by simp⟩
            have HLT := Lib.hid hlt
            clear hx hxl hcx hlt
            obtain ⟨wo, rfl⟩ : ∃ wo : World, wo = wr := ⟨_, rfl⟩
            go_wp2
            go_loopg [19, 20] i (fun gk vb vk wy => ∃ (k : Nat) (b : Bool), gk = i - k ∧ k ≤ i ∧ vb = .bool b ∧ vk = .int .i64 k ∧ Hid (b = (l.take k).any (fun y => decide (y = x)) ∧ Chg No wo wy))
            case atStart => exact ⟨0, false, rfl, Nat.zero_le _, rfl, rfl, rfl, Chg.refl _ _⟩
            case round =>
              obtain ⟨k, b, rfl, hk, rfl, rfl, hb, K2⟩ := hrel
              by_cases hkl : k < i
              · obtain ⟨y, hy⟩ : ∃ y, l[k]? = some y := ⟨_, List.getElem?_eq_getElem (by rw [HNL.out]; exact hkl)⟩
                obtain ⟨gy, oy, eA, hgy, hcy⟩ := cells6 (W := wr) (HR.out.chg (HW9.out.trans (K.out.trans K2)) (fun _ _ _ _ h => h)) hkl hy
                subst eA
                have ⟨y0, y1, y2, y3, y4⟩ := hcy wr (Chg.refl _ _)
                have ⟨x0, x1, x2, x3, x4⟩ := (HCX wr).out (K.out.trans K2)
                have hkk : (k : Int) < (i : Int) := by omega
                have HANS : Hid ((l.take (k + 1)).any (fun y => decide (y = x)) = ((l.take k).any (fun y => decide (y = x)) || decide (y = x))) := by show _ = _; rw [List.take_add_one, hy, List.any_append]; simp
                have HK2 := Lib.hid K2
                have HB := Lib.hid hb
                clear hy hcy hkl hb K2
                cases b with
                | true =>
                  go_wp2_with fail
                  go_quiet (fail)
                  go_wp2
                  go_roundg (i - (k + 1))
                  case measure => omega
                  case rel => exact ⟨k + 1, true, rfl, by omega, rfl, by go_num, by rw [HANS.out, ← HB.out]; rfl, HK2.out.trans (by (repeat (first | (with_reducible exact Chg.refl _ _) | (with_reducible assumption) | (with_reducible refine Chg.drewN ?_ _) | (with_reducible refine Chg.drew ?_) | (with_reducible refine Chg.alloc ?_ _) | (with_reducible refine Chg.setCell ?_ (by first | (left; simp [DevH.foot]; done) | (right; simp; done) | (right; simp; omega)) _))))⟩
                | false =>
                  by_cases hyx : y = x
                  · have heq : ∀ W : World, (binOp .eql tItem (itemV y) (itemV x)).run Try.prog W = .ok (.bool true) W := fun W => by rw [run_eql_item, decide_eq_true hyx]
                    have HYX := Lib.hid hyx
                    clear hyx
                    go_wp2_with fail
                    go_quiet (fail)
                    go_wp2
                    go_roundg (i - (k + 1))
                    case measure => omega
                    case rel => exact ⟨k + 1, true, rfl, by omega, rfl, by go_num, by rw [HANS.out, HYX.out]; simp, HK2.out.trans (by (repeat (first | (with_reducible exact Chg.refl _ _) | (with_reducible assumption) | (with_reducible refine Chg.drewN ?_ _) | (with_reducible refine Chg.drew ?_) | (with_reducible refine Chg.alloc ?_ _) | (with_reducible refine Chg.setCell ?_ (by first | (left; simp [DevH.foot]; done) | (right; simp; done) | (right; simp; omega)) _))))⟩
                  · have heq : ∀ W : World, (binOp .eql tItem (itemV y) (itemV x)).run Try.prog W = .ok (.bool false) W := fun W => by rw [run_eql_item, decide_eq_false hyx]
                    have HYX := Lib.hid hyx
                    clear hyx
                    go_wp2_with fail
                    go_quiet (fail)
                    go_wp2
                    go_roundg (i - (k + 1))
                    case measure => omega
                    case rel => exact ⟨k + 1, false, rfl, by omega, rfl, by go_num, by rw [HANS.out, ← HB.out, decide_eq_false HYX.out]; rfl, HK2.out.trans (by (repeat (first | (with_reducible exact Chg.refl _ _) | (with_reducible assumption) | (with_reducible refine Chg.drewN ?_ _) | (with_reducible refine Chg.drew ?_) | (with_reducible refine Chg.alloc ?_ _) | (with_reducible refine Chg.setCell ?_ (by first | (left; simp [DevH.foot]; done) | (right; simp; done) | (right; simp; omega)) _))))⟩
              · obtain rfl : k = i := by omega
                obtain rfl : true = b := by rw [hb, List.take_of_length_le (by rw [HNL.out]; exact Nat.le_refl _)]; exact HANY.out.symm
                have HK2 := Lib.hid K2
                clear hb K2 hkl
                go_wp2
                go_roundg (na - (q + 1))
                case measure => omega
                case rel => exact ⟨q + 1, rfl, by have := HLT.out; omega, by go_num, K.out.trans HK2.out⟩
          · have HK := Lib.hid K
            obtain ⟨wo, rfl⟩ : ∃ wo : World, wo = wr := ⟨_, rfl⟩
            clear K
            go_wp2
            go_loopg [21] 0 (fun gk vi wz => gk = 0 ∧ vi = .int .i64 0 ∧ Hid (Chg No wo wz))
            case atStart => exact ⟨rfl, rfl, Chg.refl _ _⟩
            case round =>
              obtain ⟨rfl, rfl, K⟩ := hrel
              go_wp2
              go_ret
              exact ⟨rfl, HW9.out.trans (HK.out.trans K)⟩
end Go.Proofs.Ytcmobcbecbajiaa
