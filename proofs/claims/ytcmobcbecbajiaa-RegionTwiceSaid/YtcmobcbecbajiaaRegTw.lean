/- RegionTwice, walked. -/
import Derived.Test.YtcmobcbecbajiaaRegSe
namespace Go.Proofs.Ytcmobcbecbajiaa
open Go.RowKit
open Go.ChangeMaps (setBlock)
attribute [local go_sem ↓] Go.wp_at_zero Go.wp_at_succ
set_option linter.unusedSimpArgs false
set_option linter.unusedVariables false

theorem Hlog.items {w0 w : World} {h : DevH} {t : LgH} {G : Lg} {D : Dev} (H : Hlog w0 h t G D w) (h20 : G.regs.length < 20) :
    Calls Try.prog 32 #[.pointer (some ⟨t.L, 0, none⟩)] w fun e w' => ∃ v, e = .returned v ∧ w'.ownsRow w.heap.size tItem 5 v G.items.length (its G.items) ∧ Chg No w w' := by
  have hbl := byNum_len G.regs
  exact items_calls H.log h20 (byNum_lt _) (by omega)
theorem opTop_new (n r : Nat) : opTop (Dev.new n) 0 r = 0 := by
  have : (Lg.opened (Dev.new n) 0 r).number = 0 := by rw [opened_new]
  exact this
theorem sess_new (n r : Nat) (h1 : 1 ≤ r) (h2 : r ≤ 64) (h3 : 4 * r ≤ n) (h4 : n ≤ 4096) (P : Item → Prop) (a : Int) : Sess (Dev.new n) r (opTop (Dev.new n) 0 r) 0 P (Lg.opened (Dev.new n) 0 r) ((Dev.new n).arm a) := by
  have hl := live_new n r h1 h2 h3 h4
  exact .inl ⟨_, Alive.begin_ rfl (fun _ => rfl) (nums_new n r) hl.ok hl.nd h3 P a⟩
theorem sure_back {G G' : Lg} (hk : ∀ key, aget G'.keys key = aget G.keys key) (hr : G'.regs = G.regs) (ho : G.opn = []) (ho' : G'.opn = []) : ∀ x ∈ G.items, G'.get x.key = x ∧ G'.getE x.key = 0 := by
  intro x hx
  obtain ⟨p, h1, h2, _⟩ := items_mem hx
  have h3 : G'.item p = x := by
    rw [← h2]
    unfold Lg.item
    rw [hr, ho, ho']
  constructor
  · unfold Lg.get
    rw [hk, h1]
    exact h3
  · unfold Lg.getE Lg.has
    rw [hk, h1]; rfl
theorem cells6 {w W : World} {te : TypeId} {A : Option Addr} {n k : Nat} {l : List Item} {x : Item} (h : Rd w te A (n * 5) (its l)) (hk : k < n) (hx : l[k]? = some x) : ∃ g off, A = some ⟨g, off, none⟩ ∧ g < w.heap.size ∧ ∀ W : World, Chg No w W → W.cell? ⟨g, off + k * 5, none⟩ = some (.string x.key) ∧ W.cell? ⟨g, off + k * 5 + 1, none⟩ = some (.string x.val) ∧
      W.cell? ⟨g, off + k * 5 + 2, none⟩ = some (.int .u32 x.flags.toNat) ∧ W.cell? ⟨g, off + k * 5 + 3, none⟩ = some (.int .i64 x.exp.toInt) ∧ W.cell? ⟨g, off + k * 5 + 4, none⟩ = some (.int .u64 x.ver.toNat) := by
  obtain ⟨g, off, e1, h1, _⟩ := h.at_ (j := k * 5) (by omega)
  obtain ⟨g', off', e2, h2⟩ := rd_at6 h hk hx
  have e : g = g' ∧ off = off' := by rw [e1] at e2; simpa using e2
  obtain ⟨rfl, rfl⟩ := e
  exact ⟨g, off, e1, h1, h2⟩

theorem own_len {w : World} {v : Value} {base e size n : Nat} {xs : List Value} (h : w.ownsRow base e size v n xs) (hs : 0 < size) : n ≤ 9223372036854775807 := by
  rcases h.2 with ⟨_, e⟩ | ⟨g', cap, cur, _, _, _, hnc, hcm, _⟩
  · omega
  · unfold maxLen at hcm; omega

/-- a list beside the log -/
structure Aside (t : LgH) (v : Value) (l : List Item) (w : World) : Prop where
  row : w.ownsRow 0 tItem 5 v l.length (its l)
  no : ∀ k, v.ownBlock = some k → ¬ t.own k
theorem Aside.step {w0 w w' : World} {h : DevH} {t t' : LgH} {G : Lg} {D : Dev} {R : LgR} {v v' : Value} {l : List Item} (ha : Aside t v l w) (H : Hlog w0 h t G D w) (hp : Hpost w0 w h t R v' t' w') : Aside t' v l w' := by
  refine ⟨own_chg ha.row hp.chg (by
    rintro k hk (hf | ho)
    · exact own_foot H.dev ha.row (by decide) (by decide) k hk hf
    · exact ha.no k hk ho), fun k hk ho => ?_⟩
  rcases hp.own k ho with h1 | h1
  · exact ha.no k hk h1
  · have := (ha.row.lt k hk).2; omega
theorem Aside.flash {w0 w w' : World} {h : DevH} {t : LgH} {G : Lg} {D : Dev} {v : Value} {l : List Item} (ha : Aside t v l w) (H : Hlog w0 h t G D w) (hc : Chg h.foot w w') : Aside t v l w' :=
  ⟨own_chg ha.row hc (fun k hk hf => own_foot H.dev ha.row (by decide) (by decide) k hk hf), ha.no⟩
theorem sess_on {w0 w : World} {h : DevH} {t : LgH} {D0 D1 : Dev} {r N0 N : Nat} {P : Item → Prop} {L : Nat → List Item} {W : List Item} {fl : Nat → Nat → Pg} (H : Hlog w0 h t (Lg.opened D1 0 r) D1 w) (hE : Ends D0 r N0 N P D1 L W fl) (hN : Nums (Lg.opened D1 0 r)) (Q : Item → Prop) (a : Int) : Sess D1 r (opTop D1 0 r) 0 Q (Lg.opened D1 0 r) (D1.arm a) :=
  .inl ⟨_, Alive.begin_ hE.on.off hE.still hN H.log.ok H.log.nodup hE.nn Q a⟩

set_option maxRecDepth 100000 in
set_option maxHeartbeats 8000000 in
theorem rtwice_calls (z : Int) (A : Option Addr) (n c : Nat) (l : List Item) (te : TypeId) (y : Int) (Ap : Option Addr) (np cp : Nat) (picks : List UInt8) (tp : TypeId) (B : Option Addr) (m d : Nat) (ls : List Item) (tm : TypeId) (y2 : Int) (Aq : Option Addr) (nq cq : Nat) (again : List UInt8) (tq : TypeId) (w : World) (hz : -9223372036854775808 ≤ z ∧ z ≤ 9223372036854775807) (hn : l.length = n) (hr : Rd w te A (n * 5) (its l)) (hs : ∀ x ∈ l, x.key.size ≤ 140737488351232 ∧ x.val.size ≤ 140737488351232) (hnm : n ≤ 9223372036854775807) (hy : y ≤ 9223372036854775807) (hpn : picks.length = np) (hpr : Rd w tp Ap np (bys picks)) (hm : ls.length = m) (hrm : Rd w tm B (m * 5) (its ls)) (hsm : ∀ x ∈ ls, x.key.size ≤ 140737488351232 ∧ x.val.size ≤ 140737488351232) (hmm : m ≤ 9223372036854775807) (hy2 : y2 ≤ 9223372036854775807) (hqn : again.length = nq) (hqr : Rd w tq Aq nq (bys again)) :
    Calls Try.prog 11 #[.int .i64 z, .slice A n c, .int .i64 y, .slice Ap np cp, .slice B m d, .int .i64 y2, .slice Aq nq cq] w fun e w' => e = .returned (.bool true) ∧ Chg No w w' := by
  have HA := Lib.hid (awake9_calls w)
  have HN := fun W => Lib.hid (new_calls 12 W (by omega) (by omega))
  have HR := Lib.hid hr
  have HNL := Lib.hid hn
  have HS := Lib.hid hs
  have HPN := Lib.hid hpn
  have HPR := Lib.hid hpr
  have HRM := Lib.hid hrm
  have HML := Lib.hid hm
  have HSM := Lib.hid hsm
  have HQN := Lib.hid hqn
  have HQR := Lib.hid hqr
  clear hr hn hs hpn hpr hm hrm hsm hqn hqr
  by_cases h1 : z < 1
  · go_enter Try.func11, Try.ntmps11
    go_wp2_with fail
    refine HA.out.mono ?_
    rintro e w0 ⟨rfl, hc0⟩
    have HC0 := Lib.hid hc0
    clear hc0 HA HN
    go_wp2
    go_ret
    exact ⟨rfl, HC0.out⟩
  by_cases h2 : 3 < z
  · go_enter Try.func11, Try.ntmps11
    go_wp2_with fail
    refine HA.out.mono ?_
    rintro e w0 ⟨rfl, hc0⟩
    have HC0 := Lib.hid hc0
    clear hc0 HA HN
    go_wp2
    go_ret
    exact ⟨rfl, HC0.out⟩
  by_cases h3 : 15 < n
  · have b3 : (15 : Int) < (n : Int) := by omega
    go_enter Try.func11, Try.ntmps11
    go_wp2_with fail
    refine HA.out.mono ?_
    rintro e w0 ⟨rfl, hc0⟩
    have HC0 := Lib.hid hc0
    clear hc0 HA HN
    go_wp2
    go_ret
    exact ⟨rfl, HC0.out⟩
  have b3 : ¬ (15 : Int) < (n : Int) := by omega
  by_cases h4 : 15 < m
  · have b4 : (15 : Int) < (m : Int) := by omega
    go_enter Try.func11, Try.ntmps11
    go_wp2_with fail
    refine HA.out.mono ?_
    rintro e w0 ⟨rfl, hc0⟩
    have HC0 := Lib.hid hc0
    clear hc0 HA HN
    go_wp2
    go_ret
    exact ⟨rfl, HC0.out⟩
  obtain ⟨r, rfl⟩ := Int.eq_ofNat_of_zero_le (show 0 ≤ z by omega)
  have hr1 : 1 ≤ r := by omega
  have hr3 : r ≤ 3 := by omega
  have hn15 : n ≤ 15 := by omega
  have hm15 : m ≤ 15 := by omega
  have b4 : ¬ (15 : Int) < (m : Int) := by omega
  clear h3 h4
  go_enter Try.func11, Try.ntmps11
  go_wp2_with fail
  refine HA.out.mono ?_
  rintro e w0 ⟨rfl, hc0⟩
  have HC0 := Lib.hid hc0
  clear hc0 HA
  go_wp2_with fail
  refine (HN _).out.mono ?_
  rintro e w1 ⟨h, rfl, hd1, hc1, hf1⟩
  have HOP := Lib.hid (Hlog.opened (first := 0) (n := r) hd1 hf1 hc1 hr1 (by omega) (by show 0 + 4 * r ≤ (12 : Nat); omega) rfl)
  rw [show Dev.new (12 : Int).toNat = Dev.new 12 from rfl] at HOP
  have HF := Lib.hid hf1
  have HNU0 := Lib.hid (nums_new 12 r)
  have HSES0 := Lib.hid (sess_new 12 r hr1 (by omega) (by omega) (by omega) (fun _ => True) y)
  have HZ0 := Lib.hid (opTop_new 12 r)
  obtain ⟨D0, hD0⟩ : ∃ D0, D0 = Dev.new 12 := ⟨_, rfl⟩
  rw [← hD0] at HOP HSES0 HZ0 HNU0
  clear hd1 hc1 hf1 HN
  go_wp2_with fail
  refine HOP.out.mono ?_
  rintro e w2 ⟨t0, rfl, hh2, _, hc2⟩
  have HH2 := Lib.hid hh2
  have HARM := Lib.hid (arm_calls hh2.dev y hy)
  obtain ⟨G0, hG0⟩ : ∃ G0, G0 = Lg.opened D0 0 r := ⟨_, rfl⟩
  have HG0 := Lib.hid hG0
  rw [← hG0] at HH2 HSES0
  clear hh2 hc2 HOP hG0 hD0
  go_wp2_with fail
  refine HARM.out.mono ?_
  rintro e w3 ⟨rfl, hd3, hc3⟩
  have HH3 := Lib.hid (HH2.out.flash hd3 hc3)
  clear hd3 hc3 HARM
  go_wp2
  go_loopg [19] n (fun gk vi wr => ∃ i : Nat, gk = n - i ∧ i ≤ n ∧ vi = .int .i64 i ∧ Hid (∃ (t : LgH) (G : Lg) (D : Dev), t.L = t0.L ∧ Hlog w0 h t G D wr ∧ Sess D0 r (opTop D0 0 r) i (fun _ => True) G D))
  case atStart => exact ⟨0, rfl, Nat.zero_le _, rfl, t0, G0, _, rfl, HH3.out, HSES0.out⟩
  case round =>
    obtain ⟨i, rfl, hi, rfl, t, G, D, hL, HH, HO⟩ := hrel
    by_cases hlt : i < n
    · obtain ⟨x, hx⟩ : ∃ x, l[i]? = some x := ⟨_, List.getElem?_eq_getElem (by rw [HNL.out]; exact hlt)⟩
      have hsx := HS.out x (List.mem_of_getElem? hx)
      obtain ⟨g, off, hA, hg, hc⟩ := cells6 (W := wr) (HR.out.chg (HC0.out.trans HH.chg) (fun _ _ _ _ h => h)) hlt hx
      subst hA
      have ⟨c0, c1, c2, c3, c4⟩ := hc wr (Chg.refl _ _)
      have hii : (i : Int) < (n : Int) := by omega
      have HPUT := Lib.hid (HH.put x hsx.1 hsx.2)
      rw [hL] at HPUT
      have HO2 := Lib.hid (HO.put (x := x) (by rw [HZ0.out]; omega) trivial)
      have HLL := Lib.hid hL
      obtain ⟨R, hR⟩ : ∃ R, R = G.put D x := ⟨_, rfl⟩
      rw [← hR] at HPUT HO2
      clear hsx hx hc HO hL hR HH HH2 HH3 HSES0
      go_wp2_with fail
      refine HPUT.out.mono ?_
      rintro e w4 ⟨v3, t3, rfl, hp⟩
      have HH4 := Lib.hid hp.st
      have HL4 : Hid (t3.L = t0.L) := hp.L.trans HLL.out
      clear hp HPUT
      go_wp2
      go_roundg (n - (i + 1))
      case measure => omega
      case rel => exact ⟨i + 1, rfl, by omega, by go_num, t3, _, _, HL4.out, HH4.out, HO2.out⟩
    · obtain rfl : i = n := by omega
      have HSE := Lib.hid HH.shut
      have hsl := HO.sl (by rw [HZ0.out]; omega)
      rw [hL] at HSE
      obtain ⟨G2, D2, lost, er, hRe⟩ : ∃ G2 D2 lost er, G.sl D = ⟨G2, D2, lost, er⟩ := ⟨_, _, _, _, rfl⟩
      rw [hRe] at HSE hsl
      have HSS := Lib.hid hsl.1
      have HLL := Lib.hid hL
      clear hlt hsl hRe HH2 HH3 HSES0
      go_wp2_with fail
      refine HSE.out.mono ?_
      rintro e w4 ⟨v3, t3, rfl, hp⟩
      have HH4 : Hid (Hlog w0 h t3 G2 D2 w4) := hp.st
      have HL4 : Hid (t3.L = t0.L) := hp.L.trans HLL.out
      clear hp HSE HO HH
      obtain ⟨N, L, W, fl, hN, hE⟩ := HSS.out.ends (by omega) (by rw [HZ0.out]; omega) picks
      have hNt := hE.top_le (by omega) rfl
      have hT : opTop (D2.crash picks).on 0 r ≤ 17 := by have := HZ0.out; omega
      have HTP := Lib.hid hT
      have HEN := Lib.hid hE
      have HNM : Hid (Nums (Lg.opened (D2.crash picks).on 0 r)) := hE.nums (by omega) HNU0.out rfl
      have HFIT : Hid (4 * r ≤ (D2.crash picks).on.n) := hE.nn
      have HFA : ∀ W, Hid (Chg No w W → ∀ W', Chg h.foot W W' → Chg No w W') := fun W => fun h1 W' h2 => h1.then h2 (fun i hi hT => by have := HF.out i hT; have := HC0.out.size; omega)
      have HCR := Lib.hid (crash_calls HH4.out.dev Ap np cp picks tp HPN.out (fun W' hc => HPR.out.chg ((HFA _).out (HC0.out.trans HH4.out.chg) _ hc) (fun _ _ _ _ h => h)))
      obtain ⟨D1, hD1⟩ : ∃ D1, D1 = (D2.crash picks).on := ⟨_, rfl⟩
      rw [← hD1] at HNM HFIT HTP HEN
      have HD1 := Lib.hid hD1
      clear hN hE hD1 hNt hT
      go_wp2_with fail
      refine HCR.out.mono ?_
      rintro e w6 ⟨rfl, hd6, hc6⟩
      have HH6 := Lib.hid (HH4.out.flash hd6 hc6)
      have HON := Lib.hid (on_calls hd6)
      clear hd6 hc6 HCR
      go_wp2_with fail
      refine HON.out.mono ?_
      rintro e w7 ⟨rfl, hd7, hc7⟩
      have HH7 := Lib.hid (HH6.out.flash hd7 hc7)
      rw [← HD1.out] at HH7
      have HOP := Lib.hid (Hlog.opened (first := 0) (n := r) HH7.out.dev HH7.out.foot HH7.out.chg hr1 (by omega) (by rw [Nat.zero_add]; exact HFIT.out) (by rw [HD1.out]; rfl))
      clear hd7 hc7 HON
      go_wp2_with fail
      refine HOP.out.mono ?_
      rintro e w8 ⟨t8, rfl, hh8, _, _⟩
      have HH8 := Lib.hid hh8
      have HI8 := Lib.hid (hh8.items (by rw [opened_len]; omega))
      have HSO := Lib.hid (sess_on hh8 HEN.out HNM.out (fun x => x ∈ ls) y2)
      obtain ⟨was, hwas⟩ : ∃ was, was = (Lg.opened D1 0 r).items := ⟨_, rfl⟩
      rw [← hwas] at HI8
      have HWAS := Lib.hid hwas
      obtain ⟨nw, hnw⟩ : ∃ nw, nw = was.length := ⟨_, rfl⟩
      rw [← hnw] at HI8
      have HNW := Lib.hid hnw
      clear hh8 HOP hwas hnw
      go_wp2_with fail
      refine HI8.out.mono ?_
      rintro e w9 ⟨v9, rfl, ho9, hc9⟩
      have HAS : Hid (Aside t8 v9 was w9) := ⟨by rw [← HNW.out]; exact own_base ho9 (Nat.zero_le _), fun k hk ho => by have h1 := own_new ho9 k hk; have h2 := HH8.out.log.lt k ho; omega⟩
      have HH9 := Lib.hid (HH8.out.chgNo hc9)
      have hnwm := own_len ho9 (by omega)
      obtain ⟨A9, c9, rfl, hn9, _⟩ := own_slice ho9
      have HARM := Lib.hid (arm_calls HH9.out.dev y2 hy2)
      clear ho9 hc9 HI8 HH8 HH7 HH6 HH4
      go_wp2_with fail
      refine HARM.out.mono ?_
      rintro e w10 ⟨rfl, hd10, hc10⟩
      have HA10 := Lib.hid (HAS.out.flash HH9.out hc10)
      have HH10 := Lib.hid (HH9.out.flash hd10 hc10)
      clear hd10 hc10 HARM HAS HH9
      go_wp2
      go_loopg [21] m (fun gk vi wr => ∃ q : Nat, gk = m - q ∧ q ≤ m ∧ vi = .int .i64 q ∧ Hid (∃ (t : LgH) (G : Lg) (D : Dev), t.L = t8.L ∧ Hlog w0 h t G D wr ∧ Sess D1 r (opTop D1 0 r) q (fun x => x ∈ ls) G D ∧ Aside t (.slice A9 nw c9) was wr))
      case atStart => exact ⟨0, rfl, Nat.zero_le _, rfl, t8, _, _, rfl, HH10.out, HSO.out, HA10.out⟩
      case round =>
        obtain ⟨q, rfl, hq, rfl, t, G, D, hL, HH, HO, HAS⟩ := hrel
        by_cases hlt : q < m
        · obtain ⟨x, hx⟩ : ∃ x, ls[q]? = some x := ⟨_, List.getElem?_eq_getElem (by rw [HML.out]; exact hlt)⟩
          have hsx := HSM.out x (List.mem_of_getElem? hx)
          obtain ⟨g, off, hA, hg, hc⟩ := cells6 (W := wr) (HRM.out.chg (HC0.out.trans HH.chg) (fun _ _ _ _ h => h)) hlt hx
          subst hA
          have ⟨c0, c1, c2, c3, c4⟩ := hc wr (Chg.refl _ _)
          have hii : (q : Int) < (m : Int) := by omega
          have HPUT := Lib.hid (HH.put x hsx.1 hsx.2)
          rw [hL] at HPUT
          have HO2 := Lib.hid (HO.put (x := x) (by have := HTP.out; omega) (List.mem_of_getElem? hx))
          have HLL := Lib.hid hL
          have HHx := Lib.hid HH
          have HAx := Lib.hid HAS
          obtain ⟨R, hR⟩ : ∃ R, R = G.put D x := ⟨_, rfl⟩
          rw [← hR] at HPUT HO2
          clear hsx hx hc HO hL hR HH HAS HH10 HSO HA10
          go_wp2_with fail
          refine HPUT.out.mono ?_
          rintro e w4 ⟨v3, t3, rfl, hp⟩
          have HH4 := Lib.hid hp.st
          have HL4 : Hid (t3.L = t8.L) := hp.L.trans HLL.out
          have HA4 := Lib.hid (HAx.out.step HHx.out hp)
          clear hp HPUT
          go_wp2
          go_roundg (m - (q + 1))
          case measure => omega
          case rel => exact ⟨q + 1, rfl, by omega, by go_num, t3, _, _, HL4.out, HH4.out, HO2.out, HA4.out⟩
        · obtain rfl : q = m := by omega
          have HSE := Lib.hid HH.shut
          have hsl := HO.sl (by have := HTP.out; omega)
          rw [hL] at HSE
          obtain ⟨G5, D5, lost5, er5, hRe⟩ : ∃ G2 D2 lost er, G.sl D = ⟨G2, D2, lost, er⟩ := ⟨_, _, _, _, rfl⟩
          rw [hRe] at HSE hsl
          have HSS5 := Lib.hid hsl.1
          have HLL5 := Lib.hid hL
          have HHx := Lib.hid HH
          have HAx := Lib.hid HAS
          clear hlt hsl hRe HH10 HSO HA10 hL HO HH HAS
          go_wp2_with fail
          refine HSE.out.mono ?_
          rintro e w11 ⟨v11, t11, rfl, hp⟩
          have HH11 : Hid (Hlog w0 h t11 G5 D5 w11) := hp.st
          have HA11 := Lib.hid (HAx.out.step HHx.out hp)
          clear hp HSE HHx HAx
          obtain ⟨N2, L2, W2, fl2, hN2, hE2⟩ := HSS5.out.ends (by omega) (by have := HTP.out; omega) again
          have HIT : Hid (∀ x ∈ (Lg.opened (D5.crash again).on 0 r).items, x ∈ was ∨ x ∈ ls) := fun x hx => by
            rcases hE2.items (by omega) HNM.out rfl x hx with h | h
            · exact .inr h
            · left; rw [HWAS.out]; exact h
          have HFIT2 : Hid (4 * r ≤ (D5.crash again).on.n) := hE2.nn
          have HCR := Lib.hid (crash_calls HH11.out.dev Aq nq cq again tq HQN.out (fun W' hc => HQR.out.chg ((HFA _).out (HC0.out.trans HH11.out.chg) _ hc) (fun _ _ _ _ h => h)))
          obtain ⟨D6, hD6⟩ : ∃ D6, D6 = (D5.crash again).on := ⟨_, rfl⟩
          rw [← hD6] at HIT HFIT2
          have HD6 := Lib.hid hD6
          clear hN2 hE2 hD6
          go_wp2_with fail
          refine HCR.out.mono ?_
          rintro e w12 ⟨rfl, hd12, hc12⟩
          have HH12 := Lib.hid (HH11.out.flash hd12 hc12)
          have HA12 := Lib.hid (HA11.out.flash HH11.out hc12)
          have HON := Lib.hid (on_calls hd12)
          clear hd12 hc12 HCR
          go_wp2_with fail
          refine HON.out.mono ?_
          rintro e w13 ⟨rfl, hd13, hc13⟩
          have HH13 := Lib.hid (HH12.out.flash hd13 hc13)
          have HA13 := Lib.hid (HA12.out.flash HH12.out hc13)
          rw [← HD6.out] at HH13
          have HOP := Lib.hid (Hlog.opened (first := 0) (n := r) HH13.out.dev HH13.out.foot HH13.out.chg hr1 (by omega) (by rw [Nat.zero_add]; exact HFIT2.out) (by rw [HD6.out]; rfl))
          clear hd13 hc13 HON
          go_wp2_with fail
          refine HOP.out.mono ?_
          rintro e w14 ⟨t14, rfl, hh14, _, hc14⟩
          have HH14 := Lib.hid hh14
          have HA14 := Lib.hid (HA13.out.flash HH13.out hc14)
          have HI14 := Lib.hid (hh14.items (by rw [opened_len]; omega))
          obtain ⟨a, ha⟩ : ∃ a, a = (Lg.opened D6 0 r).items := ⟨_, rfl⟩
          rw [← ha] at HI14 HIT
          obtain ⟨na, hna⟩ : ∃ na, na = a.length := ⟨_, rfl⟩
          rw [← hna] at HI14
          have HNA := Lib.hid hna
          clear hh14 hc14 HOP ha hna
          go_wp2_with fail
          refine HI14.out.mono ?_
          rintro e w15 ⟨v15, rfl, ho15, hc15⟩
          obtain ⟨A15, c15, rfl, hn15, hr15⟩ := own_slice ho15
          have hna15 := own_len ho15 (by omega)
          have HR15 := Lib.hid hr15
          have HC15 := Lib.hid hc15
          have HRW : Hid (Rd w15 tItem A9 (nw * 5) (its was)) := by
            have hrow := own_chg HA14.out.row hc15 (fun _ _ h => h)
            rw [← HNW.out] at hrow
            exact Rd.ofOwn hrow
          have HW15 : Hid (Chg No w w15) := HC0.out.trans (HH14.out.chg.trans HC15.out)
          clear ho15 hc15 hr15 HI14 HS HSM HH11 HH12 HH13 HA11 HA12 HA13 HA14
          go_wp2
          go_loopg [23] na (fun gk vi wz => ∃ p : Nat, gk = na - p ∧ p ≤ na ∧ vi = .int .i64 p ∧ Hid (Chg No w15 wz))
          case atStart => exact ⟨0, rfl, Nat.zero_le _, rfl, Chg.refl _ _⟩
          case round =>
            obtain ⟨p, rfl, hp, rfl, K⟩ := hrel
            by_cases hlt : p < na
            · obtain ⟨x, hx⟩ : ∃ x, a[p]? = some x := ⟨_, List.getElem?_eq_getElem (by rw [← HNA.out]; exact hlt)⟩
              have HXL := Lib.hid (HIT.out x (List.mem_of_getElem? hx))
              obtain ⟨gx, ox, eA, hgx, hcx⟩ := cells6 (W := wr) HR15.out hlt hx
              subst eA
              have HCX : ∀ W, Hid (Chg No w15 W → _) := fun W => hcx W
              have hpp : (p : Int) < (na : Int) := by omega
              have HLT := Lib.hid hlt
              clear hx hcx hlt
              obtain ⟨wo, rfl⟩ : ∃ wo : World, wo = wr := ⟨_, rfl⟩
              go_wp2
              go_loopg [24, 25] nw (fun gk vb vk wy => ∃ (k : Nat) (b : Bool), gk = nw - k ∧ k ≤ nw ∧ vb = .bool b ∧ vk = .int .i64 k ∧ Hid (b = (false || (was.take k).any (fun y => decide (y = x))) ∧ Chg No wo wy))
              case atStart => exact ⟨0, false, rfl, Nat.zero_le _, rfl, rfl, by simp, (Chg.refl _ _)⟩
              case round =>
                obtain ⟨k, b, rfl, hk, rfl, rfl, hb, K2⟩ := hrel
                by_cases hkl : k < nw
                · obtain ⟨u, hu⟩ : ∃ u, was[k]? = some u := ⟨_, List.getElem?_eq_getElem (by rw [← HNW.out]; exact hkl)⟩
                  obtain ⟨gy, oy, eA, hgy, hcy⟩ := cells6 (W := wr) ((HRW.out.chg (K.out.trans K2) (fun _ _ _ _ h => h))) hkl hu
                  subst eA
                  have ⟨y0, y1, y2, y3, y4⟩ := hcy wr (Chg.refl _ _)
                  have ⟨x0, x1, x2, x3, x4⟩ := (HCX wr).out (K.out.trans K2)
                  have hkk : (k : Int) < (nw : Int) := by omega
                  have HANS : Hid ((was.take (k + 1)).any (fun y => decide (y = x)) = ((was.take k).any (fun y => decide (y = x)) || decide (u = x))) := by show _ = _; rw [List.take_add_one, hu, List.any_append]; simp
                  have HK2 := Lib.hid K2
                  have HB := Lib.hid hb
                  clear hu hcy hkl hb K2
                  cases b with
                  | true =>
                    go_wp2_with fail
                    go_quiet (fail)
                    go_wp2
                    go_roundg (nw - (k + 1))
                    case measure => omega
                    case rel => exact ⟨k + 1, true, rfl, by omega, rfl, by go_num, by rw [HANS.out, ← Bool.or_assoc, ← HB.out]; rfl, HK2.out.trans (by (repeat (first | (with_reducible exact Chg.refl _ _) | (with_reducible assumption) | (with_reducible refine Chg.drewN ?_ _) | (with_reducible refine Chg.drew ?_) | (with_reducible refine Chg.alloc ?_ _) | (with_reducible refine Chg.setCell ?_ (by first | (left; simp [DevH.foot]; done) | (right; simp; done) | (right; simp; omega)) _))))⟩
                  | false =>
                    by_cases hyx : u = x
                    · have heq : ∀ W : World, (binOp .eql tItem (itemV u) (itemV x)).run Try.prog W = .ok (.bool true) W := fun W => by rw [run_eql_item, decide_eq_true hyx]
                      have HYX := Lib.hid hyx
                      clear hyx
                      go_wp2_with fail
                      go_quiet (fail)
                      go_wp2
                      go_roundg (nw - (k + 1))
                      case measure => omega
                      case rel => exact ⟨k + 1, true, rfl, by omega, rfl, by go_num, by rw [HANS.out, HYX.out]; simp, HK2.out.trans (by (repeat (first | (with_reducible exact Chg.refl _ _) | (with_reducible assumption) | (with_reducible refine Chg.drewN ?_ _) | (with_reducible refine Chg.drew ?_) | (with_reducible refine Chg.alloc ?_ _) | (with_reducible refine Chg.setCell ?_ (by first | (left; simp [DevH.foot]; done) | (right; simp; done) | (right; simp; omega)) _))))⟩
                    · have heq : ∀ W : World, (binOp .eql tItem (itemV u) (itemV x)).run Try.prog W = .ok (.bool false) W := fun W => by rw [run_eql_item, decide_eq_false hyx]
                      have HYX := Lib.hid hyx
                      clear hyx
                      go_wp2_with fail
                      go_quiet (fail)
                      go_wp2
                      go_roundg (nw - (k + 1))
                      case measure => omega
                      case rel => exact ⟨k + 1, false, rfl, by omega, rfl, by go_num, by rw [HANS.out, ← Bool.or_assoc, ← HB.out, decide_eq_false HYX.out]; rfl, HK2.out.trans (by (repeat (first | (with_reducible exact Chg.refl _ _) | (with_reducible assumption) | (with_reducible refine Chg.drewN ?_ _) | (with_reducible refine Chg.drew ?_) | (with_reducible refine Chg.alloc ?_ _) | (with_reducible refine Chg.setCell ?_ (by first | (left; simp [DevH.foot]; done) | (right; simp; done) | (right; simp; omega)) _))))⟩
                · obtain rfl : k = nw := by omega
                  obtain ⟨b1, rfl⟩ : ∃ b1 : Bool, b1 = b := ⟨_, rfl⟩
                  have HB1 : Hid (b1 = was.any (fun y => decide (y = x))) := by show _ = _; rw [hb, List.take_of_length_le (by rw [← HNW.out]; exact Nat.le_refl _)]; rfl
                  obtain ⟨wp, rfl⟩ : ∃ wp : World, wp = wr := ⟨_, rfl⟩
                  have HKP := Lib.hid K2
                  clear hb hkl K2
                  go_wp2
                  go_loopg [24, 26] q (fun gk vb vk wy => ∃ (k : Nat) (b : Bool), gk = q - k ∧ k ≤ q ∧ vb = .bool b ∧ vk = .int .i64 k ∧ Hid (b = (b1 || (ls.take k).any (fun y => decide (y = x))) ∧ Chg No wp wy))
                  case atStart => exact ⟨0, b1, rfl, Nat.zero_le _, rfl, rfl, by simp, (Chg.refl _ _)⟩
                  case round =>
                    obtain ⟨k, b, rfl, hk, rfl, rfl, hb, K2⟩ := hrel
                    by_cases hkl : k < q
                    · obtain ⟨u, hu⟩ : ∃ u, ls[k]? = some u := ⟨_, List.getElem?_eq_getElem (by rw [HML.out]; exact hkl)⟩
                      obtain ⟨gy, oy, eA, hgy, hcy⟩ := cells6 (W := wr) ((HRM.out.chg (HW15.out.trans (K.out.trans (HKP.out.trans K2))) (fun _ _ _ _ h => h))) hkl hu
                      subst eA
                      have ⟨y0, y1, y2, y3, y4⟩ := hcy wr (Chg.refl _ _)
                      have ⟨x0, x1, x2, x3, x4⟩ := (HCX wr).out (K.out.trans (HKP.out.trans K2))
                      have hkk : (k : Int) < (q : Int) := by omega
                      have HANS : Hid ((ls.take (k + 1)).any (fun y => decide (y = x)) = ((ls.take k).any (fun y => decide (y = x)) || decide (u = x))) := by show _ = _; rw [List.take_add_one, hu, List.any_append]; simp
                      have HK2 := Lib.hid K2
                      have HB := Lib.hid hb
                      clear hu hcy hkl hb K2
                      cases b with
                      | true =>
                        go_wp2_with fail
                        go_quiet (fail)
                        go_wp2
                        go_roundg (q - (k + 1))
                        case measure => omega
                        case rel => exact ⟨k + 1, true, rfl, by omega, rfl, by go_num, by rw [HANS.out, ← Bool.or_assoc, ← HB.out]; rfl, HK2.out.trans (by (repeat (first | (with_reducible exact Chg.refl _ _) | (with_reducible assumption) | (with_reducible refine Chg.drewN ?_ _) | (with_reducible refine Chg.drew ?_) | (with_reducible refine Chg.alloc ?_ _) | (with_reducible refine Chg.setCell ?_ (by first | (left; simp [DevH.foot]; done) | (right; simp; done) | (right; simp; omega)) _))))⟩
                      | false =>
                        by_cases hyx : u = x
                        · have heq : ∀ W : World, (binOp .eql tItem (itemV u) (itemV x)).run Try.prog W = .ok (.bool true) W := fun W => by rw [run_eql_item, decide_eq_true hyx]
                          have HYX := Lib.hid hyx
                          clear hyx
                          go_wp2_with fail
                          go_quiet (fail)
                          go_wp2
                          go_roundg (q - (k + 1))
                          case measure => omega
                          case rel => exact ⟨k + 1, true, rfl, by omega, rfl, by go_num, by rw [HANS.out, HYX.out]; simp, HK2.out.trans (by (repeat (first | (with_reducible exact Chg.refl _ _) | (with_reducible assumption) | (with_reducible refine Chg.drewN ?_ _) | (with_reducible refine Chg.drew ?_) | (with_reducible refine Chg.alloc ?_ _) | (with_reducible refine Chg.setCell ?_ (by first | (left; simp [DevH.foot]; done) | (right; simp; done) | (right; simp; omega)) _))))⟩
                        · have heq : ∀ W : World, (binOp .eql tItem (itemV u) (itemV x)).run Try.prog W = .ok (.bool false) W := fun W => by rw [run_eql_item, decide_eq_false hyx]
                          have HYX := Lib.hid hyx
                          clear hyx
                          go_wp2_with fail
                          go_quiet (fail)
                          go_wp2
                          go_roundg (q - (k + 1))
                          case measure => omega
                          case rel => exact ⟨k + 1, false, rfl, by omega, rfl, by go_num, by rw [HANS.out, ← Bool.or_assoc, ← HB.out, decide_eq_false HYX.out]; rfl, HK2.out.trans (by (repeat (first | (with_reducible exact Chg.refl _ _) | (with_reducible assumption) | (with_reducible refine Chg.drewN ?_ _) | (with_reducible refine Chg.drew ?_) | (with_reducible refine Chg.alloc ?_ _) | (with_reducible refine Chg.setCell ?_ (by first | (left; simp [DevH.foot]; done) | (right; simp; done) | (right; simp; omega)) _))))⟩
                    · obtain rfl : k = q := by omega
                      obtain rfl : true = b := by
                        rw [hb, List.take_of_length_le (by rw [HML.out]; exact Nat.le_refl _), HB1.out]
                        symm
                        rw [Bool.or_eq_true, List.any_eq_true, List.any_eq_true]
                        rcases HXL.out with h | h
                        · exact .inl ⟨x, h, by simp⟩
                        · exact .inr ⟨x, h, by simp⟩
                      have HK2 := Lib.hid K2
                      clear hb K2 hkl HB1
                      go_wp2
                      go_roundg (na - (p + 1))
                      case measure => have := HLT.out; omega
                      case rel => exact ⟨p + 1, rfl, by have := HLT.out; omega, by go_num, K.out.trans (HKP.out.trans HK2.out)⟩
            · go_wp2
              go_ret
              exact ⟨rfl, HW15.out.trans K⟩
end Go.Proofs.Ytcmobcbecbajiaa
