/- RegionNewest, walked. -/
import Derived.Test.YtcmobcbecbajiaaRegZ
namespace Go.Proofs.Ytcmobcbecbajiaa
open Go.RowKit
open Go.ChangeMaps (setBlock)
attribute [local go_sem ↓] Go.wp_at_zero Go.wp_at_succ
set_option linter.unusedSimpArgs false
set_option linter.unusedVariables false

/-- the list beside the log, in memory -/
structure NowAt (w0 : World) (t : LgH) (v : Value) (now : List Item) (w : World) : Prop where
  row : w.ownsRow w0.heap.size tItem 5 v now.length (its now)
  no : ∀ k, v.ownBlock = some k → ¬ t.own k
theorem fits_or {x : Item} (h : Lg.fits x = false) : x.good = false ∨ (x.good = true ∧ ¬ x.size ≤ 1472) := by
  unfold Lg.fits at h
  cases hg : x.good with
  | false => exact .inl rfl
  | true => rw [hg] at h; right; exact ⟨rfl, by simpa using h⟩

theorem noKeys_len (out : List Item) : ∀ l : List Item, (noKeys l out).length ≤ l.length := by
  induction out with
  | nil => intro l; exact Nat.le_refl _
  | cons y r ih => intro l; exact Nat.le_trans (ih _) (List.length_filter_le _ _)
theorem sl_regs (G : Lg) (D : Dev) : (G.sl D).G.regs.length = G.regs.length := by
  unfold Lg.sl
  split
  · rfl
  · split
    · rfl
    · split
      · rfl
      · split
        · simp [Lg.shut]
        · simp [Lg.gave]
theorem put_regs (G : Lg) (D : Dev) (x : Item) : (G.put D x).G.regs.length = G.regs.length := by
  unfold Lg.put
  split
  · split
    · rfl
    · split
      · exact sl_regs G D
      · exact sl_regs G D
  · rfl

set_option maxRecDepth 100000 in
set_option maxHeartbeats 8000000 in
theorem rnewest_calls (z : Int) (A : Option Addr) (n c : Nat) (l : List Item) (te : TypeId) (w : World) (hz : -9223372036854775808 ≤ z ∧ z ≤ 9223372036854775807) (hn : l.length = n) (hr : Rd w te A (n * 5) (its l))
    (hs : ∀ x ∈ l, x.key.size ≤ 140737488351232 ∧ x.val.size ≤ 140737488351232) :
    Calls Try.prog 5 #[.int .i64 z, .slice A n c] w fun e w' => e = .returned (.bool true) ∧ Chg No w w' := by
  have HA := Lib.hid (awake9_calls w)
  have HN := fun W => Lib.hid (new_calls 12 W (by omega) (by omega))
  have HR := Lib.hid hr
  have HNL := Lib.hid hn
  have HS := Lib.hid hs
  clear hr hn hs
  by_cases h1 : z < 1
  · go_enter Try.func5, Try.ntmps5
    go_wp2_with fail
    refine HA.out.mono ?_
    rintro e w0 ⟨rfl, hc0⟩
    have HC0 := Lib.hid hc0
    clear hc0 HA HN
    go_wp2
    go_ret
    exact ⟨rfl, HC0.out⟩
  by_cases h2 : 3 < z
  · go_enter Try.func5, Try.ntmps5
    go_wp2_with fail
    refine HA.out.mono ?_
    rintro e w0 ⟨rfl, hc0⟩
    have HC0 := Lib.hid hc0
    clear hc0 HA HN
    go_wp2
    go_ret
    exact ⟨rfl, HC0.out⟩
  by_cases h3 : 40 < n
  · have b3 : (40 : Int) < (n : Int) := by omega
    go_enter Try.func5, Try.ntmps5
    go_wp2_with fail
    refine HA.out.mono ?_
    rintro e w0 ⟨rfl, hc0⟩
    have HC0 := Lib.hid hc0
    clear hc0 HA HN
    go_wp2
    go_ret
    exact ⟨rfl, HC0.out⟩
  obtain ⟨r, rfl⟩ := Int.eq_ofNat_of_zero_le (show 0 ≤ z by omega)
  have hr1 : 1 ≤ r := by omega
  have hr3 : r ≤ 3 := by omega
  have hn40 : n ≤ 40 := by omega
  have b3 : ¬ (40 : Int) < (n : Int) := by omega
  clear h3
  go_enter Try.func5, Try.ntmps5
  go_wp2_with fail
  refine HA.out.mono ?_
  rintro e w0 ⟨rfl, hc0⟩
  have HC0 := Lib.hid hc0
  clear hc0 HA
  go_wp2_with fail
  refine (HN _).out.mono ?_
  rintro e w1 ⟨h, rfl, hd1, hc1, hf1⟩
  have HOP := Lib.hid (Hlog.opened (first := 0) (n := r) hd1 hf1 hc1 hr1 (by omega) (by show 0 + 4 * r ≤ (12 : Nat); omega) rfl)
  rw [show Dev.new (12 : Int).toNat = Dev.new 12 from rfl] at HOP
  have HNW := Lib.hid (newest_new 12 r hr1 (by omega) (by omega) (by omega))
  clear hd1 hc1 hf1 HN
  go_wp2_with fail
  refine HOP.out.mono ?_
  rintro e w2 ⟨t0, rfl, hh2, _, hc2⟩
  have HH2 := Lib.hid hh2
  obtain ⟨G0, hG0⟩ : ∃ G0, G0 = Lg.opened (Dev.new 12) 0 r := ⟨_, rfl⟩
  rw [← hG0] at HH2 HNW
  have HLR : Hid (G0.regs.length ≤ 3) := by show _ ≤ _; rw [hG0, opened_new]; simp; exact hr3
  clear hh2 hc2 HOP hG0
  go_wp2
  go_loopg [9, 10] n (fun gk vv vi wr => ∃ (i : Nat) (v9 : Value), v9 = vv ∧ gk = n - i ∧ i ≤ n ∧ vi = .int .i64 i ∧
    Hid (∃ (t : LgH) (G : Lg) (D : Dev) (now : List Item), t.L = t0.L ∧ Hlog w0 h t G D wr ∧ Newest G D now i ∧ NowAt w0 t v9 now wr ∧ G.regs.length ≤ 3))
  case atStart => exact ⟨0, _, rfl, rfl, Nat.zero_le _, rfl, t0, G0, Dev.new 12, [], rfl, HH2.out, HNW.out, ⟨World.ownsRow_nil _ _ _ _, fun k hk => by simp [Value.ownBlock] at hk⟩, HLR.out⟩
  case round =>
    obtain ⟨i, v9, rfl, rfl, hi, rfl, t, G, D, now, hL, HH, HNT, HNA, HGL⟩ := hrel
    by_cases hlt : i < n
    · obtain ⟨x, hx⟩ : ∃ x, l[i]? = some x := ⟨_, List.getElem?_eq_getElem (by rw [HNL.out]; exact hlt)⟩
      have hsx := HS.out x (List.mem_of_getElem? hx)
      have hrw : ∀ W, Chg No w0 W → Rd W te A (n * 5) (its l) := fun W hc => HR.out.chg (HC0.out.trans hc) (fun _ _ _ _ h => h)
      obtain ⟨g, off, hA, hg, _⟩ := (hrw wr HH.chg).at_ (j := i * 5) (by omega)
      subst hA
      have HCL : Hid (∀ W, Chg No w0 W → W.cell? ⟨g, off + i * 5, none⟩ = some (.string x.key) ∧ W.cell? ⟨g, off + i * 5 + 1, none⟩ = some (.string x.val) ∧ W.cell? ⟨g, off + i * 5 + 2, none⟩ = some (.int .u32 x.flags.toNat) ∧ W.cell? ⟨g, off + i * 5 + 3, none⟩ = some (.int .i64 x.exp.toInt) ∧ W.cell? ⟨g, off + i * 5 + 4, none⟩ = some (.int .u64 x.ver.toNat)) := fun W hcW => by
        obtain ⟨g', off', e', _, hc⟩ := (hrw W hcW).at_ (j := i * 5) (by omega)
        simp only [Option.some.injEq, Addr.mk.injEq, and_true] at e'
        obtain ⟨rfl, rfl⟩ := e'
        have c0 := hc (i * 5 + 0) _ (its_get l i 0 x hx (by omega))
        have c1 := hc (i * 5 + 1) _ (its_get l i 1 x hx (by omega))
        have c2 := hc (i * 5 + 2) _ (its_get l i 2 x hx (by omega))
        have c3 := hc (i * 5 + 3) _ (its_get l i 3 x hx (by omega))
        have c4 := hc (i * 5 + 4) _ (its_get l i 4 x hx (by omega))
        simp only [itc, List.getElem_cons_zero, List.getElem_cons_succ, ← Nat.add_assoc, Nat.add_zero] at c0 c1 c2 c3 c4
        exact ⟨c0, c1, c2, c3, c4⟩
      have ⟨c0, c1, c2, c3, c4⟩ := HCL.out wr HH.chg
      have hii : (i : Int) < (n : Int) := by omega
      have HPUT := Lib.hid (HH.put x hsx.1 hsx.2)
      rw [hL] at HPUT
      have HNE := Lib.hid HNT
      have HNO := Lib.hid HNA
      have HLL := Lib.hid hL
      have HGG : Hid (G.regs.length ≤ 3) := HGL
      have HSX := Lib.hid hsx
      clear hsx hrw hx HNT HNA hL HGL HH2 HNW HLR
      cases hf : Lg.fits x with
      | false =>
        have hb := HNE.out.bad (by omega) hf
        rw [hb.1] at HPUT
        have HNE2 := Lib.hid hb.2
        have HFO := Lib.hid (fits_or hf)
        clear hb hf
        go_wp2_with fail
        refine HPUT.out.mono ?_
        rintro e w3 ⟨v3, t3, rfl, hp⟩
        have HH3 : Hid (Hlog w0 h t3 G D w3) := hp.st
        have HL3 : Hid (t3.L = t0.L) := hp.L.trans HLL.out
        have HN3 : Hid (NowAt w0 t3 v9 now w3) := by
          refine ⟨own_chg HNO.out.row hp.chg (by
            rintro k hk (hf | ho)
            · exact own_foot HH.dev HNO.out.row (by decide) (by decide) k hk hf
            · exact HNO.out.no k hk ho), fun k hk ho => ?_⟩
          rcases hp.own k ho with h1 | h1
          · exact HNO.out.no k hk h1
          · have := (HNO.out.row.lt k hk).2; omega
        have HGD := fun W => Lib.hid (rgood_calls x W)
        have HSZ := fun W => Lib.hid (rsize_calls x W HSX.out.1 HSX.out.2)
        have ⟨d0, d1, d2, d3, d4⟩ := HCL.out w3 HH3.out.chg
        clear hp HPUT c0 c1 c2 c3 c4
        rcases HFO.out with hgd | ⟨hgd, hsz⟩
        · rw [hgd] at HGD
          clear hgd HSZ HFO
          go_wp2_with fail
          refine (HGD _).out.mono ?_
          rintro e w4 ⟨rfl, hc4⟩
          have HC4 := Lib.hid hc4
          clear hc4 HGD
          go_wp2
          go_roundg (n - (i + 1))
          case measure => omega
          case rel => exact ⟨i + 1, _, rfl, rfl, by omega, by go_num, t3, G, D, now, HL3.out, HH3.out.chgNo HC4.out, HNE2.out, ⟨own_chg HN3.out.row HC4.out (fun _ _ h => h), HN3.out.no⟩, HGG.out⟩
        · rw [hgd] at HGD
          have hb2 : decide ((x.size : Int) ≤ 1472) = false := decide_eq_false (by omega)
          have hb3 : ¬ (x.size : Int) ≤ 1472 := by omega
          obtain ⟨sz, hsze⟩ : ∃ sz, sz = x.size := ⟨_, rfl⟩
          rw [← hsze] at HSZ hb2 hb3
          clear hgd HFO hsz hsze
          go_wp2_with fail
          refine (HGD _).out.mono ?_
          rintro e w4 ⟨rfl, hc4⟩
          have HC4 := Lib.hid hc4
          have ⟨d0, d1, d2, d3, d4⟩ := HCL.out w4 (HH3.out.chg.trans hc4)
          clear hc4 HGD
          go_wp2_with fail
          refine (HSZ _).out.mono ?_
          rintro e w5 ⟨rfl, hc5⟩
          have HC5 := Lib.hid (HC4.out.trans hc5)
          clear hc5 HSZ
          go_wp2
          go_roundg (n - (i + 1))
          case measure => omega
          case rel => exact ⟨i + 1, _, rfl, rfl, by omega, by go_num, t3, G, D, now, HL3.out, HH3.out.chgNo HC5.out, HNE2.out, ⟨own_chg HN3.out.row HC5.out (fun _ _ h => h), HN3.out.no⟩, HGG.out⟩
      | true =>
        have hput := HNE.out.put (by omega) hf
        rw [hput.1] at HPUT
        obtain ⟨G2, D2, lost, er, hRe⟩ : ∃ G2 D2 lost er, G.put D x = ⟨G2, D2, lost, er⟩ := ⟨_, _, _, _, rfl⟩
        rw [hRe] at HPUT hput
        have HNE2 : Hid (Newest G2 D2 (nowPut now lost x) (i + 1)) := hput.2
        have HRE := Lib.hid hRe
        have hnl := HNE.out.len
        clear hput hf hRe
        go_wp2_with fail
        refine HPUT.out.mono ?_
        rintro e w3 ⟨v3, t3, rfl, hp⟩
        have HH3 : Hid (Hlog w0 h t3 G2 D2 w3) := hp.st
        have HL3 : Hid (t3.L = t0.L) := hp.L.trans HLL.out
        have HN3 : Hid (NowAt w0 t3 v9 now w3) := by
          refine ⟨own_chg HNO.out.row hp.chg (by
            rintro k hk (hf | ho)
            · exact own_foot HH.dev HNO.out.row (by decide) (by decide) k hk hf
            · exact HNO.out.no k hk ho), fun k hk ho => ?_⟩
          rcases hp.own k ho with h1 | h1
          · exact HNO.out.no k hk h1
          · have := (HNO.out.row.lt k hk).2; omega
        have hlo : w3.ownsRow wr.heap.size tItem 5 v3 lost.length (its lost) := hp.lost
        obtain ⟨A3, cp3, rfl, hnc3, hrd3⟩ := own_slice hlo
        have HRD3 := Lib.hid hrd3
        have hlb : lost.length ≤ 9223372036854775807 := by
          rcases hlo.2 with ⟨_, e⟩ | ⟨g', cap, cur, _, _, _, hnc, hcm, _⟩
          · have := hlo.1; rw [e] at this; simp at this; omega
          · unfold maxLen at hcm; omega
        have HG2 : Hid (G2.regs.length ≤ 3) := by
          have h5 := HRE.out
          have h6 := put_regs G D x
          rw [h5] at h6
          show G2.regs.length ≤ 3
          rw [h6]; exact HGG.out
        have hg3 : g < w3.heap.size := Nat.lt_of_lt_of_le hg hp.chg.size
        obtain ⟨nl, hnle⟩ : ∃ nl, nl = lost.length := ⟨_, rfl⟩
        rw [← hnle] at hlb hnc3
        have HNLE := Lib.hid hnle
        rw [← hnle]
        clear hp HPUT c0 c1 c2 c3 c4 hlo hrd3 hnle
        go_wp2
        go_loopg [9, 13] nl (fun gk vv vk wz => ∃ (k : Nat) (v9 : Value), v9 = vv ∧ gk = nl - k ∧ k ≤ nl ∧ vk = .int .i64 k ∧ Hid (NowAt w0 t3 v9 (noKeys now (lost.take k)) wz ∧ Chg No w3 wz))
        case atStart => exact ⟨0, _, rfl, rfl, Nat.zero_le _, rfl, HN3.out, Chg.refl _ _⟩
        case round =>
          obtain ⟨k, v9, rfl, rfl, hk, rfl, K⟩ := hrel
          obtain ⟨nk, hnk⟩ : ∃ nk, nk = noKeys now (lost.take k) := ⟨_, rfl⟩
          have hnkl : nk.length ≤ 40 := by rw [hnk]; have := noKeys_len (lost.take k) now; omega
          rw [← hnk] at K
          obtain ⟨A9, c9, rfl, hnc9, hrd9⟩ := own_slice K.out.1.row
          have HWO := fun key => fun W => Lib.hid (fun hc : Chg No wr W => without9_calls A9 c9 nk key W (hrd9.chg hc (fun _ _ _ _ h => h)) (by omega))
          have hrb : w0.heap.size ≤ wr.heap.size := (HH3.out.chg.trans K.out.2).size
          by_cases hkl : k < nl
          · obtain ⟨y, hy⟩ : ∃ y, lost[k]? = some y := ⟨_, List.getElem?_eq_getElem (by rw [← HNLE.out]; exact hkl)⟩
            have HNS : Hid (noKeys now (lost.take (k + 1)) = noKey nk y.key) := by
              show _ = _
              rw [List.take_add_one, hy, Option.toList, hnk]
              unfold noKeys
              rw [List.foldl_append]; rfl
            obtain ⟨g3, o3, e3, _, hc3'⟩ := (HRD3.out.chg K.out.2 (fun _ _ _ _ h => h)).at_ (j := k * 5) (by rw [← HNLE.out]; omega)
            subst e3
            have y0 := hc3' (k * 5 + 0) _ (its_get lost k 0 y hy (by omega))
            simp only [itc, List.getElem_cons_zero, Nat.add_zero] at y0
            have hki : (k : Int) < (nl : Int) := by omega
            have HW1 := fun W => HWO y.key W
            clear hc3' hy hnk HWO hrd9
            go_wp2_with fail
            refine ((HW1 _).out (by (repeat (first | (with_reducible exact Chg.refl _ _) | (with_reducible assumption) | (with_reducible refine Chg.drewN ?_ _) | (with_reducible refine Chg.drew ?_) | (with_reducible refine Chg.alloc ?_ _) | (with_reducible refine Chg.setCell ?_ (by first | (left; simp [DevH.foot]; done) | (right; simp; done) | (right; simp; omega)) _))))).mono ?_
            rintro e w5 ⟨v5, rfl, ho5, hc5⟩
            have HK5 : Hid (NowAt w0 t3 v5 (noKey nk y.key) w5 ∧ Chg No w3 w5) := ⟨⟨own_base ho5 hrb, fun j hj ho => by have h1 := own_new ho5 j hj; have h2 := HH3.out.log.lt j ho; have h3 := K.out.2.size; omega⟩, K.out.2.trans hc5⟩
            clear ho5 hc5 HW1
            go_wp2
            go_roundg (nl - (k + 1))
            case measure => omega
            case rel => exact ⟨k + 1, _, rfl, rfl, by omega, by go_num, by rw [HNS.out]; exact HK5.out.1, HK5.out.2⟩
          · obtain rfl : k = nl := by omega
            have hnkx : nk = noKeys now lost := by rw [hnk, List.take_of_length_le (by rw [← HNLE.out]; exact Nat.le_refl _)]
            have HNX : Hid (nowPut now lost x = noKey nk x.key ++ [x]) := by show _ = _; rw [hnkx]; rfl
            have HW1 := fun W => HWO x.key W
            have HCL2 : ∀ W, Hid (Chg No wr W → W.cell? ⟨g, off + i * 5, none⟩ = some (.string x.key) ∧ W.cell? ⟨g, off + i * 5 + 1, none⟩ = some (.string x.val) ∧ W.cell? ⟨g, off + i * 5 + 2, none⟩ = some (.int .u32 x.flags.toNat) ∧ W.cell? ⟨g, off + i * 5 + 3, none⟩ = some (.int .i64 x.exp.toInt) ∧ W.cell? ⟨g, off + i * 5 + 4, none⟩ = some (.int .u64 x.ver.toNat)) := fun W hcW => HCL.out W ((HH3.out.chg.trans K.out.2).trans hcW)
            have ⟨c0, c1, c2, c3, c4⟩ := (HCL2 wr).out (Chg.refl _ _)
            have hlen9 : (noKey nk x.key).length ≤ 40 := Nat.le_trans (List.length_filter_le _ _) hnkl
            obtain ⟨nx, hnxe⟩ : ∃ nx, nx = noKey nk x.key := ⟨_, rfl⟩
            rw [← hnxe] at HNX hlen9
            simp only [← hnxe] at HW1
            have h63 : nx.length + 1 ≤ maxLen := by simp only [maxLen]; omega
            have hby : (nx.length + 1) * 56 ≤ 140737488355328 := by omega
            have hgl : g < wr.heap.size := Nat.lt_of_lt_of_le hg3 K.out.2.size
            have h05 : 0 < 5 := by omega
            clear hnk hnkx HWO hrd9 hkl hnxe HCL
            go_wp2_with fail
            go_region_held3 (fun w' => w'.cell? ⟨g, off + i * 5, none⟩ = some (.string x.key) ∧ w'.cell? ⟨g, off + i * 5 + 1, none⟩ = some (.string x.val) ∧ w'.cell? ⟨g, off + i * 5 + 2, none⟩ = some (.int .u32 x.flags.toNat) ∧ w'.cell? ⟨g, off + i * 5 + 3, none⟩ = some (.int .i64 x.exp.toInt) ∧ w'.cell? ⟨g, off + i * 5 + 4, none⟩ = some (.int .u64 x.ver.toNat)) (first | go_keep)
              ((first
                | (go_at_call 31
                   refine ((HW1 _).out (by (repeat (first | (with_reducible exact Chg.refl _ _) | (with_reducible assumption) | (with_reducible refine Chg.drewN ?_ _) | (with_reducible refine Chg.drew ?_) | (with_reducible refine Chg.alloc ?_ _) | (with_reducible refine Chg.setCell ?_ (by first | (left; simp [DevH.foot]; done) | (right; simp; done) | (right; simp; omega)) _))))).mono ?_
                   rintro e w5 ⟨v5, rfl, ho5, hc5⟩
                   have HO5 : Hid (w5.ownsRow wr.heap.size tItem 5 v5 nx.length (its nx)) := own_base ho5 (by (repeat (first | (with_reducible exact Chg.refl _ _) | (with_reducible assumption) | (with_reducible refine Chg.drewN ?_ _) | (with_reducible refine Chg.drew ?_) | (with_reducible refine Chg.alloc ?_ _) | (with_reducible refine Chg.setCell ?_ (by first | (left; simp [DevH.foot]; done) | (right; simp; done) | (right; simp; omega)) _))) : Chg No wr _).size
                   have HC5 : Hid (Chg No wr w5) := (by (repeat (first | (with_reducible exact Chg.refl _ _) | (with_reducible assumption) | (with_reducible refine Chg.drewN ?_ _) | (with_reducible refine Chg.drew ?_) | (with_reducible refine Chg.alloc ?_ _) | (with_reducible refine Chg.setCell ?_ (by first | (left; simp [DevH.foot]; done) | (right; simp; done) | (right; simp; omega)) _))) : Chg No wr _).trans hc5
                   first | have HRI5 : Hid (Rd w5 tItem (some ⟨wr.heap.size, 0, none⟩) (1 * 5) (itc x)) := (rd_item _ x).chg hc5 (fun _ _ _ _ h => h) | have HRI5 : Hid (Rd w5 tItem (some ⟨wr.heap.size, 0, none⟩) (1 * 5) (itc x)) := (Rd.drew (rd_item _ x)).chg hc5 (fun _ _ _ _ h => h) | skip
                   have hcells := (HCL2 w5).out HC5.out
                   have e0 := hcells.1
                   have e1 := hcells.2.1
                   have e2 := hcells.2.2.1
                   have e3 := hcells.2.2.2.1
                   have e4 := hcells.2.2.2.2
                   have hgl5 : g < w5.heap.size := Nat.lt_of_lt_of_le hgl HC5.out.size
                   clear ho5 hc5 hcells)
                | ((first
                     | (refine step_app _ rfl (.tmp 91) (.tmp 96) tItems rfl tItem Try.underlying22 ti_item rfl h05 wr.heap.size _ nx.length _ rfl HO5.out tItem _ 1 1 (itc x) rfl HRI5.out (itc_one_cell x) h63 hby HC5.out.size ?_)
                     | (refine step_app _ rfl (.tmp 91) (.tmp 96) tItems rfl tItem Try.underlying22 ti_item rfl h05 wr.heap.size _ nx.length _ rfl (HO5.out.alloc _) tItem _ 1 1 (itc x) rfl (rd_item _ x) (itc_one_cell x) h63 hby (HC5.out.alloc _).size ?_))
                   intro v6 w6 ho6 hg6 hb6
                   have HO6 := Lib.hid ho6
                   have HC6 : Hid (Chg No wr w6) := Chg.grown (by have := HC5.out; (repeat (first | (with_reducible exact Chg.refl _ _) | (with_reducible assumption) | (with_reducible refine Chg.drewN ?_ _) | (with_reducible refine Chg.drew ?_) | (with_reducible refine Chg.alloc ?_ _) | (with_reducible refine Chg.setCell ?_ (by first | (left; simp [DevH.foot]; done) | (right; simp; done) | (right; simp; omega)) _)))) hg6 (fun j hj => .inr (own_new HO5.out j hj))
                   have hcells := (HCL2 w6).out HC6.out
                   have k0 := hcells.1
                   have k1 := hcells.2.1
                   have k2 := hcells.2.2.1
                   have k3 := hcells.2.2.2.1
                   have k4 := hcells.2.2.2.2
                   clear ho6 hg6 hb6 hcells)))
            all_goals
              go_wp2
              go_roundg (n - (i + 1))
              case measure => omega
              case rel =>
                refine ⟨i + 1, _, rfl, rfl, by omega, by go_num, t3, G2, D2, nowPut now lost x, HL3.out, HH3.out.chgNo (K.out.2.trans HC6.out), HNE2.out, ⟨?_, fun j hj ho => ?_⟩, HG2.out⟩
                · rw [HNX.out, List.length_append, its_append, its_one]
                  exact own_base HO6.out hrb
                · have h1 := own_new HO6.out j hj
                  have h2 := HH3.out.log.lt j ho
                  have h3 := K.out.2.size
                  omega
    · obtain rfl : i = n := by omega
      have HT := Lib.hid HNT.told
      have HLN := Lib.hid HNT.len
      obtain ⟨A9, c9, rfl, hnc9, hrd9⟩ := own_slice HNA.row
      have HRD9 := Lib.hid hrd9
      have HH9 := Lib.hid HH
      have HLL := Lib.hid hL
      have hbn : byNum G.regs = byNum G.regs := rfl
      have hbl := byNum_len G.regs
      have HIT := fun W => Lib.hid (fun hc : Chg No wr W => items_calls (HH9.out.log.chgNo hc) (by omega) (byNum_lt G.regs) (by omega))
      rw [HT.out.2, hL] at HIT
      have hnow40 := HNT.len
      obtain ⟨nn, hnn⟩ : ∃ nn, nn = now.length := ⟨_, rfl⟩
      rw [← hnn] at HIT hnc9 hnow40 ⊢
      have HNN := Lib.hid hnn
      obtain ⟨wo, rfl⟩ : ∃ wo : World, wo = wr := ⟨_, rfl⟩
      clear HNT HNA hL hrd9 hlt hbn hbl HH2 HNW HLR hnn HH
      go_wp2
      go_loopg [14] nn (fun gk vk wz => ∃ k : Nat, gk = nn - k ∧ k ≤ nn ∧ vk = .int .i64 k ∧ Hid (Chg No wo wz))
      case atStart => exact ⟨0, rfl, Nat.zero_le _, rfl, Chg.refl _ _⟩
      case round =>
        obtain ⟨k, rfl, hk, rfl, K⟩ := hrel
        by_cases hkl : k < nn
        · obtain ⟨y, hy⟩ : ∃ y, now[k]? = some y := ⟨_, List.getElem?_eq_getElem (by rw [← HNN.out]; exact hkl)⟩
          have hyt := HT.out.1 y (List.mem_of_getElem? hy)
          have HG := Lib.hid (gget_calls (HH9.out.log.chgNo K.out) y.key)
          rw [hyt.1, hyt.2, HLL.out] at HG
          obtain ⟨g9, o9, e9, hg9, hc9⟩ := (HRD9.out.chg K.out (fun _ _ _ _ h => h)).at_ (j := k * 5) (by rw [← HNN.out]; omega)
          subst e9
          have HCY : ∀ W, Hid (Chg No wr W → W.cell? ⟨g9, o9 + k * 5, none⟩ = some (.string y.key) ∧ W.cell? ⟨g9, o9 + k * 5 + 1, none⟩ = some (.string y.val) ∧ W.cell? ⟨g9, o9 + k * 5 + 2, none⟩ = some (.int .u32 y.flags.toNat) ∧ W.cell? ⟨g9, o9 + k * 5 + 3, none⟩ = some (.int .i64 y.exp.toInt) ∧ W.cell? ⟨g9, o9 + k * 5 + 4, none⟩ = some (.int .u64 y.ver.toNat)) := fun W hcW => by
            have hcc : ∀ j u, (its now)[j]? = some u → W.cell? ⟨g9, o9 + j, none⟩ = some u := fun j u hu => (hcW.toBelow.cell (p := ⟨g9, o9 + j, none⟩) hg9).trans (hc9 j u hu)
            have c0 := hcc (k * 5 + 0) _ (its_get now k 0 y hy (by omega))
            have c1 := hcc (k * 5 + 1) _ (its_get now k 1 y hy (by omega))
            have c2 := hcc (k * 5 + 2) _ (its_get now k 2 y hy (by omega))
            have c3 := hcc (k * 5 + 3) _ (its_get now k 3 y hy (by omega))
            have c4 := hcc (k * 5 + 4) _ (its_get now k 4 y hy (by omega))
            simp only [itc, List.getElem_cons_zero, List.getElem_cons_succ, ← Nat.add_assoc, Nat.add_zero] at c0 c1 c2 c3 c4
            exact ⟨c0, c1, c2, c3, c4⟩
          have ⟨y0, _, _, _, _⟩ := (HCY wr).out (Chg.refl _ _)
          have hki : (k : Int) < (nn : Int) := by omega
          have HY2 : Hid (now[k]? = some y) := hy
          clear hy hyt hc9 hkl
          go_wp2_with fail
          refine HG.out.mono ?_
          rintro e w4 ⟨rfl, hc4⟩
          have HC4 := Lib.hid hc4
          have ⟨y0, y1, y2, y3, y4⟩ := (HCY w4).out hc4
          have hgw : g9 < w4.heap.size := Nat.lt_of_lt_of_le hg9 hc4.size
          have heq : ∀ W : World, (binOp .neq tItem (itemV y) (itemV y)).run Try.prog W = .ok (.bool false) W := fun W => by rw [run_neq_item]; simp
          clear hc4 HG
          go_wp2_with fail
          go_quiet (fail)
          go_wp2
          go_roundg (nn - (k + 1))
          case measure => omega
          case rel => exact ⟨k + 1, rfl, by omega, by go_num, (K.out.trans HC4.out).trans (by (repeat (first | (with_reducible exact Chg.refl _ _) | (with_reducible assumption) | (with_reducible refine Chg.drewN ?_ _) | (with_reducible refine Chg.drew ?_) | (with_reducible refine Chg.alloc ?_ _) | (with_reducible refine Chg.setCell ?_ (by first | (left; simp [DevH.foot]; done) | (right; simp; done) | (right; simp; omega)) _))))⟩
        · obtain rfl : k = nn := by omega
          have HIT2 := Lib.hid ((HIT _).out K.out)
          have HFC : Hid (Chg No w wr) := HC0.out.trans (HH9.out.chg.trans K.out)
          clear hkl HIT
          go_wp2_with fail
          refine HIT2.out.mono ?_
          rintro e w4 ⟨v4, rfl, ho4, hc4⟩
          obtain ⟨A4, c4, rfl, hn4, _⟩ := own_slice ho4
          have HC4 := Lib.hid hc4
          clear ho4 hc4
          go_wp2
          go_ret
          exact ⟨by simp, HFC.out.trans HC4.out⟩
end Go.Proofs.Ytcmobcbecbajiaa
