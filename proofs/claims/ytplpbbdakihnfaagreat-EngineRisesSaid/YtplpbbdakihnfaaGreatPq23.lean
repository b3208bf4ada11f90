/- Packed texts: EngM. -/
import Derived.Test.YtplpbbdakihnfaaGreatPq22
set_option linter.unusedSimpArgs false
set_option linter.unusedVariables false
section
namespace Go.Proofs.YtplpbbdakihnfaaGreat
open Go.RowKit
open Go.ChangeMaps (setBlock)
attribute [local go_sem] Oper.semAt_some
attribute [local go_sem ↓] Go.wp_at_zero Go.wp_at_succ
section
variable {N : Nat} {w w' : World} {h : DevH} {t : EngH} {X : Eng} {D : Dev}
set_option maxRecDepth 100000 in
set_option maxHeartbeats 4000000 in
theorem eremove_calls (hd : DevAt w h D) (he : EngAt w h t X) (hf : X.Fit D) (A : Option Addr) (n c : Nat) (ks : List ByteArray) (hlen : ks.length = n) (te : TypeId) (hr : Rd w te A n (ks.map skey)) (hn : n ≤ 1000) (hks : ∀ k ∈ ks, k.size ≤ 140737488351232) :
    Calls Tryz.prog 19 #[.pointer (some ⟨t.E, 0, none⟩), .slice A n c] w fun e w' => ∃ M', e = .returned (.int .i64 (X.rm D ks).1) ∧ (EngAt w' h { t with j := ⟨t.j.J, M'⟩ } (X.rm D ks).2.1 ∧ (M' = t.j.M ∨ w.heap.size ≤ M')) ∧ DevAt w' h (X.rm D ks).2.2 ∧ Chg (fun k => h.foot k ∨ k = t.E ∨ t.j.own k) w w' := by
  have HMY := fun W => fun key => Lib.hid (fun (hc : Chg No w W) (hk : key.size ≤ 140737488351232) => emay_calls (he.chgNo hc) key hk)
  have HE := Lib.hid he
  have HD : Hid (DevN w.heap.size w h D) := hd
  have HR := Lib.hid hr
  have HKS := Lib.hid hks
  have HLN := Lib.hid hlen
  have HF := Lib.hid hf
  have c9 := he.box.cell 9
  simp [engBox] at c9
  have xlt := he.box.lt
  have hmm := @run_makeMap Tryz.prog
  clear hd he hf hr hks hlen
  refine (callsIn_wide (n := 9)).1 ?_
  refine callsIn_of_wp_marks Tryz.func19 rfl trivial ?_ rfl
  refine wpIn_wide.2 ?_
  simp only [Tryz.ntmps19, List.size_toArray, List.length_cons, List.length_nil, Nat.reduceAdd, Nat.reduceSub, Array.replicate_succ, Array.replicate_zero, List.push_toArray, List.append_toArray, List.nil_append, List.cons_append]
  go_wp2_with fail
  obtain ⟨wi, hwi⟩ : ∃ wi, wi = ((w.alloc (.cells #[.pointer (some ⟨t.E, 0, none⟩)] 27)).alloc (.cells #[.int .i64 0] 24)).alloc (.map #[] 0) := ⟨_, rfl⟩
  have HCI : Hid (Chg No w wi) := by rw [hwi]; show Chg No w _; (repeat (first | (with_reducible exact Chg.refl _ _) | (with_reducible assumption) | (with_reducible refine Chg.drewN ?_ _) | (with_reducible refine Chg.drew ?_) | (with_reducible refine Chg.alloc ?_ _) | (with_reducible refine Chg.setCell ?_ (by first | (left; simp [DevH.foot]; done) | (right; simp; done) | (right; simp; omega)) _)))
  have HBX : Hid (Blk wi w.heap.size 27 #[.pointer (some ⟨t.E, 0, none⟩)]) := by rw [hwi]; exact ((Blk.new w _ _).alloc _).alloc _
  have HBR : Hid (Blk wi (w.heap.size + 1) 24 #[.int .i64 0]) := by
    rw [hwi]
    have := (Blk.new (w.alloc (.cells #[.pointer (some ⟨t.E, 0, none⟩)] 27)) 24 #[.int .i64 0]).alloc (.map #[] 0)
    rw [World.size_alloc] at this
    exact this
  have HMI : Hid (MapIs skey wi (w.heap.size + 1 + 1) (ses [])) := by
    rw [hwi]
    have := MapIs.made skey ((w.alloc (.cells #[.pointer (some ⟨t.E, 0, none⟩)] 27)).alloc (.cells #[.int .i64 0] 24))
    rw [World.size_alloc, World.size_alloc] at this
    exact this
  have HWZ : Hid (wi.heap.size = w.heap.size + 1 + 1 + 1) := by show _ = _; rw [hwi]; simp [World.size_alloc]
  rw [← hwi]
  clear hwi hmm
  obtain ⟨M, hM⟩ : ∃ M, M = w.heap.size + 1 + 1 := ⟨_, rfl⟩
  have HMM := Lib.hid hM
  rw [← hM] at HMI ⊢
  clear hM
  go_loopg [5, 14] n (fun g v5 v14 wr => ∃ (k : Nat) (vv : Value), vv = v5 ∧ v14 = .int .i64 k ∧ k ≤ n ∧ n - k = g ∧ Hid (Chg (fun j => j = M) wi wr ∧ wr.ownsRow wi.heap.size tMark 2 vv (X.rmL (ks.take k)).1.length (mks (X.rmL (ks.take k)).1) ∧ MapIs skey wr M (ses (X.rmL (ks.take k)).2)))
  case atStart => exact ⟨0, _, rfl, rfl, by omega, by omega, Chg.refl _ _, World.ownsRow_nil _ _ _ _, HMI.out⟩
  case round =>
    obtain ⟨k, vv, rfl, rfl, hk, hg, H⟩ := hrel
    by_cases hkl : k < n
    · obtain ⟨key, hx⟩ : ∃ x, ks[k]? = some x := ⟨_, List.getElem?_eq_getElem (by rw [HLN.out]; exact hkl)⟩
      have hks := HKS.out key (List.mem_of_getElem? hx)
      have HST0 := Lib.hid (X.rmL_take hx)
      have hlk0 : (X.rmL (ks.take k)).1.length ≤ k := by
        refine Nat.le_trans (X.rmL_len _) ?_
        rw [List.length_take]; omega
      obtain ⟨p, hp⟩ : ∃ p, p = X.rmL (ks.take k) := ⟨_, rfl⟩
      rw [← hp] at HST0 H hlk0
      obtain ⟨l, sm⟩ := p
      have HCW0 : Hid (Chg (fun j => j = M) wi wr) := H.out.1
      have HOW0 : Hid (wr.ownsRow wi.heap.size tMark 2 vv l.length (mks l)) := H.out.2.1
      have HMW0 : Hid (MapIs skey wr M (ses sm)) := H.out.2.2
      have HCN : Hid (Chg No w wr) := HCI.out.then HCW0.out (fun i hi e => by have e1 : i = M := e; have := HMM.out; omega)
      have hlk := look_ses HMW0.out key
      obtain ⟨b0, hb0⟩ : ∃ b0, b0 = (aget sm key).getD false := ⟨_, rfl⟩
      have hll : l.length ≤ k := hlk0
      have bx0 := (HBX.out.chg HCW0.out (fun e => by have e1 : w.heap.size = M := e; have := HMM.out; omega)).cell 0
      simp at bx0
      obtain ⟨gy, oy, eA, hgy, hcy⟩ := (HR.out.chg HCN.out (fun _ _ _ _ h => h)).at_ (j := k) (by omega)
      subst eA
      have s0 := hcy k _ (by rw [List.getElem?_map, hx]; rfl)
      rw [← hb0] at hlk
      have HSTX : Hid (X.rmL (ks.take (k + 1)) = (if b0 = false ∧ X.may key = true then l ++ [(Eng.key key, X.last)] else l, aset sm key true)) := by
        show _ = _
        rw [HST0.out, hb0]; rfl
      clear HST0 hp hlk0 H hcy hx hb0
      cases b0 with
      | true =>
        have HST : Hid (X.rmL (ks.take (k + 1)) = (l, aset sm key true)) := by show _ = _; rw [HSTX.out, if_neg (by simp)]
        have HCW := HCW0
        have HOW := HOW0
        have HMW := HMW0
        obtain ⟨o, hrun, hmap⟩ := HMW.out.update (P := Tryz.prog) (keyLaw_string (Tryz.underlying9)) Tryz.underlying101 key (.bool true)
        rw [aset_ses] at hmap
        have HFIN : Hid (Chg (fun j => j = M) wi (setBlock wr M o) ∧ (setBlock wr M o).ownsRow wi.heap.size tMark 2 vv l.length (mks l) ∧ MapIs skey (setBlock wr M o) M (ses (aset sm key true))) := ⟨HCW.out.trans (chg_setBlock _ _ _), own_chg HOW.out (chg_setBlock _ _ _) (fun k' h1 h2 => own_map HMW.out HOW.out (h1.trans (congrArg some h2))), hmap⟩
        clear hmap HMW HCW HOW
        go_wp2_with fail
        go_roundg (n - (k + 1))
        case measure => omega
        case rel => exact ⟨k + 1, _, rfl, by go_num, by omega, rfl, by rw [HST.out]; exact HFIN.out⟩
      | false =>
        have HM1 := Lib.hid ((HMY wr key).out HCN.out hks)
        go_wp2_with fail
        refine HM1.out.mono ?_
        rintro e w1 ⟨rfl, hc1⟩
        obtain ⟨b1, hb1⟩ : ∃ b, b = X.may key := ⟨_, rfl⟩
        rw [← hb1] at HSTX ⊢
        have HC1 := Lib.hid hc1
        have HCW1 : Hid (Chg (fun j => j = M) wi w1) := HCW0.out.trans (hc1.mono (fun _ _ h => h.elim))
        have HOW1 := Lib.hid (own_chg HOW0.out hc1 (fun _ _ h => h))
        have HMW1 : Hid (MapIs skey w1 M (ses sm)) := HMW0.out.chg hc1 (fun h => h)
        clear hb1 HM1 hc1 hlk
        cases b1 with
        | false =>
          have HST : Hid (X.rmL (ks.take (k + 1)) = (l, aset sm key true)) := by show _ = _; rw [HSTX.out, if_neg (by simp)]
          have HCW := HCW1
          have HOW := HOW1
          have HMW := HMW1
          obtain ⟨o, hrun, hmap⟩ := HMW.out.update (P := Tryz.prog) (keyLaw_string (Tryz.underlying9)) Tryz.underlying101 key (.bool true)
          rw [aset_ses] at hmap
          have HFIN : Hid (Chg (fun j => j = M) wi (setBlock w1 M o) ∧ (setBlock w1 M o).ownsRow wi.heap.size tMark 2 vv l.length (mks l) ∧ MapIs skey (setBlock w1 M o) M (ses (aset sm key true))) := ⟨HCW.out.trans (chg_setBlock _ _ _), own_chg HOW.out (chg_setBlock _ _ _) (fun k' h1 h2 => own_map HMW.out HOW.out (h1.trans (congrArg some h2))), hmap⟩
          clear hmap HMW HCW HOW
          go_wp2_with fail
          go_roundg (n - (k + 1))
          case measure => omega
          case rel => exact ⟨k + 1, _, rfl, by go_num, by omega, rfl, by rw [HST.out]; exact HFIN.out⟩
        | true =>
          have HST0 : Hid (X.rmL (ks.take (k + 1)) = (l ++ [(Eng.key key, X.last)], aset sm key true)) := by show _ = _; rw [HSTX.out, if_pos (by simp)]
          have d9 : w1.cell? ⟨t.E, 9, none⟩ = some (.int .u64 X.last) := (HCN.out.trans HC1.out).cellNo c9
          have bx1 := HC1.out.cellNo bx0
          have xe1 : t.E < w1.heap.size := by have := (HCN.out.trans HC1.out).size; omega
          have xb1 : w.heap.size < w1.heap.size := by have := (HCI.out).size; have := HCW1.out.size; have := HWZ.out; omega
          have HH := fun W => Lib.hid (hash_calls key W hks)
          obtain ⟨kh, hkh⟩ : ∃ kh, kh = Eng.key key := ⟨_, rfl⟩
          have hkh2 : khash key.data.toList = kh := by rw [hkh]; rfl
          rw [hkh2] at HH
          rw [← hkh] at HST0
          obtain ⟨lv, hlv⟩ : ∃ lv, lv = X.last := ⟨_, rfl⟩
          rw [← hlv] at HST0 d9
          have h02 : 0 < 2 := by omega
          have h63 : l.length + 1 ≤ maxLen := by simp only [maxLen]; omega
          have hby : (l.length + 1) * 16 ≤ 140737488355328 := by omega
          have HHD : Hid ((w1.alloc (.cells #[.int .u64 kh, .int .u64 lv] tMark)).drew.ownsRow wi.heap.size tMark 2 vv l.length (mks l)) := HOW1.out.alloc _
          have HRD : Hid (Rd (w1.alloc (.cells #[.int .u64 kh, .int .u64 lv] tMark)).drew tMark (some ⟨w1.heap.size, 0, none⟩) (1 * 2) (mkc (kh, lv))) := (rd_mark w1 (kh, lv)).drew
          have HCD : Hid (Chg (fun j => j = M) wi (w1.alloc (.cells #[.int .u64 kh, .int .u64 lv] tMark)).drew) := (HCW1.out.alloc _).drew
          have hca : Chg No w1 (w1.alloc (.cells #[.int .u64 kh, .int .u64 lv] tMark)).drew := by (repeat (first | (with_reducible exact Chg.refl _ _) | (with_reducible assumption) | (with_reducible refine Chg.drewN ?_ _) | (with_reducible refine Chg.drew ?_) | (with_reducible refine Chg.alloc ?_ _) | (with_reducible refine Chg.setCell ?_ (by first | (left; simp [DevH.foot]; done) | (right; simp; done) | (right; simp; omega)) _)))
          have q9 := hca.cellNo d9
          have qb := hca.cellNo bx1
          have HXW : Hid (t.E < wi.heap.size ∧ w.heap.size < wi.heap.size ∧ wi.heap.size ≤ (w1.alloc (.cells #[.int .u64 kh, .int .u64 lv] tMark)).drew.heap.size) := ⟨by have := HWZ.out; omega, by have := HWZ.out; omega, HCD.out.size⟩
          have HQ := Lib.hid (And.intro q9 qb)
          clear HSTX hkh hkh2 hlv c9 bx0 hca q9 qb
          go_wp2_with fail
          go_region_held3 (fun W => W.cell? ⟨t.E, 9, none⟩ = some (.int .u64 lv) ∧ W.cell? ⟨w.heap.size, 0, none⟩ = some (.pointer (some ⟨t.E, 0, none⟩))) (first | go_keep)
            ((first
              | (go_at_call 52
                 refine (HH _).out.mono ?_
                 rintro e w3 ⟨rfl, rfl⟩)
              | ((refine step_app _ rfl (.tmp 27) (.tmp 35) tMarks rfl tMark Tryz.underlying100 ti_mark rfl h02 wi.heap.size _ l.length _ rfl HHD.out tMark _ 1 1 (mkc (kh, lv)) rfl HRD.out (mkc_one_cell (kh, lv)) h63 hby HCD.out.size ?_); intro v6 w6 ho6 hg6 hb6; have hcx : Chg (fun j => vv.ownBlock = some j) (w1.alloc (.cells #[.int .u64 kh, .int .u64 lv] tMark)).drew w6 := Chg.grown (Chg.refl _ _) hg6 (fun k' hk' => .inl hk'); have k9 := (World.cell?_of_block (a := ⟨t.E, 9, none⟩) (hcx.block t.E (by have := HXW.out.1; have := HXW.out.2.2; omega) (fun hj => by have := own_new HHD.out _ hj; have := HXW.out.1; omega))).trans HQ.out.1; have kb := (World.cell?_of_block (a := ⟨w.heap.size, 0, none⟩) (hcx.block w.heap.size (by have := HXW.out.2.1; have := HXW.out.2.2; omega) (fun hj => by have := own_new HHD.out _ hj; have := HXW.out.2.1; omega))).trans HQ.out.2; have HCX := Lib.hid hcx; clear hcx; have HO6 := Lib.hid ho6; have HG6 := Lib.hid hg6; clear ho6 hg6 hb6)))
          all_goals
            have HCW : Hid (Chg (fun j => j = M) wi w6) := HCD.out.grown HG6.out (fun k' hk' => .inr (own_new HHD.out k' hk'))
            have hm6 : MapIs skey (w1.alloc (.cells #[.int .u64 kh, .int .u64 lv] tMark)).drew M (ses sm) := HMW1.out.chg (S := No) (by (repeat (first | (with_reducible exact Chg.refl _ _) | (with_reducible assumption) | (with_reducible refine Chg.drewN ?_ _) | (with_reducible refine Chg.drew ?_) | (with_reducible refine Chg.alloc ?_ _) | (with_reducible refine Chg.setCell ?_ (by first | (left; simp [DevH.foot]; done) | (right; simp; done) | (right; simp; omega)) _)))) (fun h => h)
            have HMW : Hid (MapIs skey w6 M (ses sm)) := hm6.chg HCX.out (own_map hm6 HHD.out)
            have HOW : Hid (w6.ownsRow wi.heap.size tMark 2 v6 (l ++ [(kh, lv)]).length (mks (l ++ [(kh, lv)]))) := by
              show World.ownsRow _ _ _ _ _ _ _
              rw [List.length_append, mks_append, mks_one]
              exact HO6.out
            have HST := HST0
            clear hm6 HST0 HO6 HCD HRD HHD HQ HG6 HCX HH k9 kb HMW1 HOW1 HCW1 HMW0 HOW0 HCW0 d9 bx1
            obtain ⟨o, hrun, hmap⟩ := HMW.out.update (P := Tryz.prog) (keyLaw_string (Tryz.underlying9)) Tryz.underlying101 key (.bool true)
            rw [aset_ses] at hmap
            have HFIN : Hid (Chg (fun j => j = M) wi (setBlock w6 M o) ∧ (setBlock w6 M o).ownsRow wi.heap.size tMark 2 v6 (l ++ [(kh, lv)]).length (mks (l ++ [(kh, lv)])) ∧ MapIs skey (setBlock w6 M o) M (ses (aset sm key true))) := ⟨HCW.out.trans (chg_setBlock _ _ _), own_chg HOW.out (chg_setBlock _ _ _) (fun k' h1 h2 => own_map HMW.out HOW.out (h1.trans (congrArg some h2))), hmap⟩
            clear hmap HMW HCW HOW
            go_wp2_with fail
            go_roundg (n - (k + 1))
            case measure => omega
            case rel => exact ⟨k + 1, _, rfl, by go_num, by omega, rfl, by rw [HST.out]; exact HFIN.out⟩
    · obtain rfl : k = n := by omega
      have HTK : Hid (ks.take k = ks) := List.take_of_length_le (by rw [HLN.out]; exact Nat.le_refl _)
      have HA := Lib.hid H.out
      rw [HTK.out] at HA
      obtain ⟨l, hl⟩ : ∃ l, l = (X.rmL ks).1 := ⟨_, rfl⟩
      have HL := Lib.hid hl
      have HOL : Hid (Chg (fun j => j = M) wi wr ∧ wr.ownsRow wi.heap.size tMark 2 vv l.length (mks l)) := by rw [hl]; exact ⟨HA.out.1, HA.out.2.1⟩
      have hll : l.length ≤ 1000 := by rw [hl]; have := X.rmL_len ks; rw [HLN.out] at this; omega
      obtain ⟨Ab, cb, rfl, hncb, hrdb⟩ := own_slice HOL.out.2
      have HC0 := Lib.hid HOL.out.1
      have HRD := Lib.hid hrdb
      have HMB : Hid (∀ q ∈ l, q.1 < 18446744073709551616 ∧ q.2 < 18446744073709551616) := by
        intro q hq
        rw [hl] at hq
        obtain ⟨k', _, e⟩ := X.rmL_mem ks q hq
        rw [e]
        exact ⟨khash_lt _, HE.out.last⟩
      clear hl H HA HOL hrdb
      obtain ⟨nb, hnb⟩ : ∃ nb, nb = l.length := ⟨_, rfl⟩
      have HNB := Lib.hid hnb
      rw [← hnb] at HRD hncb hll ⊢
      clear hnb
      go_wp2_with fail
      refine (mchunk_calls Ab nb cb _).mono ?_
      rintro e w' ⟨rfl, rfl⟩
      go_wp2_with fail
      obtain ⟨G, hG⟩ : ∃ G, G = wr.heap.size := ⟨_, rfl⟩
      have HGW := Lib.hid hG
      rw [← hG]
      clear hG
      refine wp_slots2 (fun Y => { tmps := #[.pointer (some ⟨t.E, 0, none⟩), .slice A k c, .pointer (some ⟨w.heap.size, 0, none⟩), Y 3, .pointer (some ⟨w.heap.size + 1, 0, none⟩), .slice Ab nb cb, .map (some M), Y 7, Y 8, Y 9, Y 10, .map (some M), .slice A k c, .int .i64 k, .int .i64 k, .bool false, Y 16, Y 17, Y 18, Y 19, Y 20, Y 21, Y 22, Y 23, Y 24, Y 25, Y 26, Y 27, Y 28, Y 29, Y 30, Y 31, Y 32, Y 33, Y 34, Y 35, Y 36, Y 37, Y 38, Y 39, .slice Ab nb cb, .func (.func 80) #[] #[.pointer (some ⟨G, 0, none⟩), .pointer (some ⟨G + 1, 0, none⟩)], Y 42, Y 43, Y 44, Y 45, Y 46, Y 47, Y 48, Y 49, Y 50, Y 51, Y 52, Y 53, Y 54, Y 55, Y 56], defers := [] }) (fun V => Hid (RmMid l X D h t Ab nb cb w w.heap.size G [] V ∧ Chg No w V)) rfl ?_ ?_
      · have hcw : Chg No w wr := HCI.out.then HC0.out (fun i hi e => by have e1 : i = M := e; have := HMM.out; omega)
        have hcv : Chg No w ((wr.alloc (.cells #[.slice Ab nb cb] tMarks)).alloc (.cells #[.int .i64 23] tInt)) := by (repeat (first | (with_reducible exact Chg.refl _ _) | (with_reducible assumption) | (with_reducible refine Chg.drewN ?_ _) | (with_reducible refine Chg.drew ?_) | (with_reducible refine Chg.alloc ?_ _) | (with_reducible refine Chg.setCell ?_ (by first | (left; simp [DevH.foot]; done) | (right; simp; done) | (right; simp; omega)) _)))
        have h1 := (Blk.new wr tMarks #[.slice Ab nb cb]).alloc (.cells #[.int .i64 23] tInt)
        have h2 := Blk.new (wr.alloc (.cells #[.slice Ab nb cb] tMarks)) tInt #[.int .i64 23]
        rw [World.size_alloc] at h2
        rw [← HGW.out] at h1 h2
        have hMn : ∀ i, i < wi.heap.size → i ≠ M → ¬ i = M := fun i _ h => h
        refine ⟨⟨⟨X, D, .nil, HF.out, HE.out.chgNo hcv, (HD.out.chgNo hcv).at_⟩, ?_, ?_, h1, h2, (HRD.out.alloc _).alloc _, hcv.mono (fun _ _ h => h.elim)⟩, hcv⟩
        · exact ((HBX.out.chg HC0.out (fun e => by have e1 : w.heap.size = M := e; have := HMM.out; omega)).alloc _).alloc _
        · exact ((HBR.out.chg HC0.out (fun e => by have e1 : w.heap.size + 1 = M := e; have := HMM.out; omega)).alloc _).alloc _
      · intro Y V HV
        clear HC0 HRD HBX HBR HMI HCI
        have HCV := Lib.hid HV.out.2
        have HMV := Lib.hid HV.out.1
        have HEV := Lib.hid (HE.out.chgNo HV.out.2)
        have HDV : Hid (DevN w.heap.size V h D) := HD.out.chgNo HV.out.2
        have hGs : G < V.heap.size := HV.out.1.b1.lt
        have hGn : G + 1 < V.heap.size := HV.out.1.b2.lt
        have HJM : Hid (t.j.M < V.heap.size) := HEV.out.jn.lt (.inr rfl)
        have HOW : Hid (∀ k, t.g.own k → k < w.heap.size) := fun k hk => HE.out.lg.lt k hk
        have HOG : Hid (∀ k, t.g.own k → k < V.heap.size) := fun k hk => HEV.out.lg.lt k hk
        have HFL : Hid (∀ k, h.foot k → k < V.heap.size) := fun k hk => HDV.out.foot_lt hk
        have HJL : Hid (∀ k, t.j.own k → k < V.heap.size) := fun k hk => HEV.out.jn.lt hk
        have HEL : Hid (t.E < V.heap.size) := HEV.out.box.lt
        have HBL : Hid (w.heap.size + 1 < V.heap.size) := HV.out.1.br.lt
        have HWV : Hid (w.heap.size ≤ V.heap.size) := HV.out.2.size
        clear HV
        refine (wpIn_wide (n := 9)).1 ?_
        refine wpIn_rngStop (F := Fence.wide) (n := 9) rfl (by decide) (gf := 80) (lb := #[.pointer (some ⟨G, 0, none⟩), .pointer (some ⟨G + 1, 0, none⟩)]) rfl trivial (enters_of Tryz.func80 (by kernel_rfl) rfl)
          (encs := fun x : MkIx nb => #[mkV Ab nb x.1]) (Kp := mkKp G (G + 1)) (S := fun xs => xs.map (·.1) = List.range (mkN nb)) (Sp := fun pre => ∃ k, k ≤ mkN nb ∧ pre.map (·.1) = List.range k) (N := mkN nb)
          (fun l' J Jx W hW hJ hY h0 => mchunk1_in 8 l' G (G + 1) W.heap.size Ab nb cb hncb (by omega) J Jx hJ hY W ((hW.cell (p := ⟨G, 0, none⟩) hGs).trans (HMV.out.b1.cell 0)) ((hW.cell (p := ⟨G + 1, 0, none⟩) hGn).trans (HMV.out.b2.cell 0)) h0)
          ?kt ?kb (fun _ => rfl)
          (fun (pre : List (MkIx nb)) U => RmMid l X D h t Ab nb cb w w.heap.size G pre U)
          (fun cd (pre : List (MkIx nb)) U => RmCut l X D h t nb w w.heap.size cd pre U) ?own ?ownx HMV.out
          (fun x => { tmps := #[.pointer (some ⟨t.E, 0, none⟩), .slice A k c, .pointer (some ⟨w.heap.size, 0, none⟩), Y 3, .pointer (some ⟨w.heap.size + 1, 0, none⟩), .slice Ab nb cb, .map (some M), Y 7, Y 8, (mkV Ab nb x.1), Y 10, .map (some M), .slice A k c, .int .i64 k, .int .i64 k, .bool false, Y 16, Y 17, Y 18, Y 19, Y 20, Y 21, Y 22, Y 23, Y 24, Y 25, Y 26, Y 27, Y 28, Y 29, Y 30, Y 31, Y 32, Y 33, Y 34, Y 35, Y 36, Y 37, Y 38, Y 39, .slice Ab nb cb, .func (.func 80) #[] #[.pointer (some ⟨G, 0, none⟩), .pointer (some ⟨G + 1, 0, none⟩)], (mkV Ab nb x.1), Y 43, Y 44, Y 45, Y 46, Y 47, Y 48, Y 49, Y 50, Y 51, Y 52, Y 53, Y 54, Y 55, Y 56], defers := [] }) ?assign ?body ?done ?stop
        case kt => exact fun h1 h2 => ⟨h2.1.trans h1.1, h2.2.trans h1.2⟩
        case kb => exact fun U l' o o' hl _ _ _ => ⟨World.putObj_heap_other (by omega), World.putObj_heap_other (by omega)⟩
        case own =>
          intro pre U U' row hs hg hr
          have hr2 : ∀ r, row = some r → ∃ o : Obj, U.heap[r]? = some o ∧ o.isCells = false := fun r e => (hr r e).2
          obtain ⟨X', D', q1, q2, q3, q4⟩ := hs.st
          exact ⟨⟨X', D', q1, q2, q3.row hg hr HJM.out HOG.out, dev_row2 (N := U.heap.size) q4 hg (fun r e => ⟨fun hk => by have := HFL.out r hk; have := (hr r e).1; omega, (hr r e).2⟩)⟩, blk_row2 hg hr2 hs.bx, blk_row2 hg hr2 hs.br, blk_row2 hg hr2 hs.b1, blk_row2 hg hr2 hs.b2, rd_row2 hg hr2 hs.rd,
            hs.chg.grown hg (fun r e => .inr (by have := (hr r e).1; have := HWV.out; omega))⟩
        case ownx =>
          intro cd pre U r o hs hl
          obtain ⟨js, j, X', D', M', q0, q1, q2, q3, q4, q5, q6⟩ := hs.st
          have hne : ∀ g T cs, Blk U g T cs → ¬ g = V.heap.size + 1 := by
            rintro g T cs hb rfl
            unfold Blk at hb
            rw [hb] at hl
            cases hl
          have hcp : Chg (fun i => i = V.heap.size + 1) U (U.putObj (V.heap.size + 1) o) := put_chg2 U _ o
          have hM : ¬ M' = V.heap.size + 1 := by
            intro e
            obtain ⟨arr, clock, hb, _⟩ := q4.jn.map
            have e2 : ({ t with j := ⟨t.j.J, M'⟩ } : EngH).j.M = M' := rfl
            rw [e2, e, hl] at hb
            cases hb
          refine ⟨hs.ret, ⟨js, j, X', D', M', q0, q1, q2, q3, q4.chgS hcp hne hM (fun k hk e => by have := HOG.out k hk; have e2 : k = V.heap.size + 1 := e; omega), ?_, q6.chg hcp (hne _ _ _ q6)⟩, hs.chg.then hcp (fun i hi e => by have e2 : i = V.heap.size + 1 := e; have := HWV.out; omega)⟩
          exact (DevN.chg (N := U.heap.size) q5 hcp (fun e => by have := HFL.out _ (.inl rfl); omega) (fun e => by have := HFL.out _ (.inr (.inl rfl)); omega) (fun e => by have := HFL.out _ (.inr (.inr rfl)); omega) (fun g cs T _ _ hb => hne _ _ _ hb)).at_
        case assign =>
          intro lp x U K hK
          gi_wp2
          exact hK
        case body =>
          intro lp pre x U hI hlen
          obtain ⟨A', m, hcv, hml, hm1, hm23, hrc⟩ := mkV_rd hI.rd HNB.out.symm x
          obtain ⟨cv, hcv0⟩ : ∃ cv, cv = mkV Ab nb x.1 := ⟨_, rfl⟩
          rw [← hcv0]
          rw [← hcv0] at hcv
          obtain ⟨X1, D1, ha, hfit, he1, hd1⟩ := hI.st
          have HA := Lib.hid ha
          have HFT := Lib.hid hfit
          have HE1 := Lib.hid he1
          have HD1 : Hid (DevN U.heap.size U h D1) := hd1
          have HI := Lib.hid hI
          obtain ⟨cm, hcm⟩ : ∃ cm, cm = Eng.ckm l x.1 := ⟨_, rfl⟩
          have HCM := Lib.hid hcm
          have HML : Hid (cm.length = m) := by show _ = _; rw [hcm]; exact hml
          have hmb : ∀ q ∈ cm, q.1 < 18446744073709551616 ∧ q.2 < 18446744073709551616 := by
            intro q hq
            rw [hcm] at hq
            exact HMB.out q (List.mem_of_mem_drop (List.mem_of_mem_take hq))
          rw [← hcm] at hml hrc
          have HADD := Lib.hid (jadd_calls hd1 he1.jn hfit.jfit A' m m cm tMark hml hrc hm1 hm23 hmb rfl)
          have bx := hI.bx.cell 0
          have c10 := he1.box.cell 10
          simp [engBox] at bx c10
          clear hI hcv0 ha hfit he1 hd1 hml hrc hmb hcm hlen
          subst hcv
          gi_wp2
          refine ⟨trivial, (CallsIn.inRound lp (callsIn_wide.2 HADD.out)).mono ?_⟩
          rintro e W2 ⟨rfl, hj2, hd2, hc2⟩
          have hm23' : cm.length ≤ 23 := by rw [HML.out]; exact hm23
          have HF2 := Lib.hid (HFT.out.add cm hm23')
          obtain ⟨j1, j2, _, _⟩ := addJ_facts X1.J D1 cm
          have HE2 : Hid (EngAt W2 h t (X1.addX D1 cm)) := HE1.out.jrn HD1.out hc2 hj2 (by rw [j1, j2]; exact HE1.out.jfit)
          have HD2 := Lib.hid hd2
          have HC2 := Lib.hid hc2
          have HBR2 := Lib.hid (HI.out.br.chg hc2 (HE1.out.not_jrn HD1.out HI.out.br (by decide) (by decide) (by decide)))
          have HBX2 := Lib.hid (HI.out.bx.chg hc2 (HE1.out.not_jrn HD1.out HI.out.bx (by decide) (by decide) (by decide)))
          have hb1 := HI.out.b1.chg hc2 (HE1.out.not_jrn HD1.out HI.out.b1 (by decide) (by decide) (by decide))
          have hb2 := HI.out.b2.chg hc2 (HE1.out.not_jrn HD1.out HI.out.b2 (by decide) (by decide) (by decide))
          have HBB := Lib.hid (And.intro hb1 hb2)
          have HRD2 := Lib.hid (HI.out.rd.chg hc2 (fun g cur fz hgg => HE1.out.not_jrn HD1.out hgg (by decide) (by decide) (by decide)))
          have HKF : Hid (KeepsFrom V.heap.size U W2) := keeps_chg2 hc2 (fun i hi hS => by
            rcases hS with hS | hS
            · have := HFL.out i hS; omega
            · have := HJL.out i hS; omega)
          have HCC : Hid (Chg (fun k => h.foot k ∨ k = t.E ∨ t.j.own k) w W2) := HI.out.chg.trans (hc2.mono (fun k _ hk => hk.elim .inl (fun h => .inr (.inr h))))
          obtain ⟨er, her⟩ : ∃ er, er = X1.J.addE D1 cm := ⟨_, rfl⟩
          have her2 := addE_on HFT.out cm hm23'
          rw [← her] at her2 ⊢
          have HER := Lib.hid her
          have hmap : (pre ++ [x]).map (fun y : MkIx nb => y.1) = pre.map (·.1) ++ [x.1] := by rw [List.map_append]; rfl
          have HMP := Lib.hid hmap
          clear hj2 hd2 hc2 j1 j2 hb1 hb2 her hmap HADD bx c10
          have bx2 := HBX2.out.cell 0
          have r2 := HBR2.out.cell 0
          have rf2 := HBR2.out.frozen 0
          simp at bx2 r2
          rcases her2 with rfl | rfl
          · gi_wp2
            refine ⟨HKF.out, ?_, ?_⟩
            · exact ⟨HC2.out.block _ HI.out.b1.lt (HE1.out.not_jrn HD1.out HI.out.b1 (by decide) (by decide) (by decide)), HC2.out.block _ HI.out.b2.lt (HE1.out.not_jrn HD1.out HI.out.b2 (by decide) (by decide) (by decide))⟩
            · refine ⟨⟨_, _, ?_, HF2.out, HE2.out, HD2.out⟩, HBX2.out, HBR2.out, HBB.out.1, HBB.out.2, HRD2.out, HCC.out⟩
              rw [HMP.out, HCM.out]
              exact .snoc x.1 HA.out (by rw [← HCM.out]; exact HER.out.symm)
          · have HWI := Lib.hid (ewipe_calls HD2.out HE2.out HF2.out.on.off HF2.out.n2 HF2.out.seq HF2.out.ls HF2.out.gen)
            gi_wp2
            refine ⟨trivial, (CallsIn.inRound lp (callsIn_wide.2 HWI.out)).mono ?_⟩
            rintro e W3 ⟨M', rfl, he3, hd3, hc3, hM'⟩
            have hbr3 := HBR2.out.chg hc3 (by
              rintro (q | q | q)
              · exact HD2.out.not_foot HBR2.out (by decide) (by decide) q
              · omega
              · exact HE2.out.not_jrn HD2.out HBR2.out (by decide) (by decide) (by decide) (.inr q))
            have HBR3 := Lib.hid hbr3
            have HE3 := Lib.hid he3
            have HD3 := Lib.hid hd3
            have HC3 := Lib.hid hc3
            have hbx3 := HBX2.out.chg hc3 (by
              rintro (q | q | q)
              · exact HD2.out.not_foot HBX2.out (by decide) (by decide) q
              · omega
              · exact HE2.out.not_jrn HD2.out HBX2.out (by decide) (by decide) (by decide) (.inr q))
            have HMW : Hid (M' = t.j.M ∨ w.heap.size ≤ M') := hM'.imp id (Nat.le_trans HCC.out.size)
            clear he3 hd3 hc3 hM' hbr3 bx2 r2 rf2 HWI
            have r3 := HBR3.out.cell 0
            have rf3 := HBR3.out.frozen 0
            have r4 := hbx3.cell 0
            clear hbx3
            simp at r3 r4
            obtain ⟨ew, hew⟩ : ∃ ew, ew = (X1.addX D1 cm).wipeE (X1.J.addD D1 cm) := ⟨_, rfl⟩
            rw [← hew]
            have HEW := Lib.hid hew
            clear hew
            gi_wp2
            have hW4 : Chg (fun i => i = w.heap.size + 1) W3 (W3.setCell ⟨w.heap.size + 1, 0, none⟩ (.int .i64 ew)) := chg_setCell W3 ⟨w.heap.size + 1, 0, none⟩ _
            have hb4 : Blk (W3.setCell ⟨w.heap.size + 1, 0, none⟩ (.int .i64 ew)) (w.heap.size + 1) tErrn #[.int .i64 ew] := by have := HBR3.out.set_ 0 (.int .i64 ew); simpa using this
            have hst : X1.stopOf D1 cm = ((X1.addX D1 cm).wipeE (X1.J.addD D1 cm), (X1.addX D1 cm).wipeX (X1.J.addD D1 cm), (X1.J.addD D1 cm).stD (X1.addX D1 cm).wB) := by
              unfold Eng.stopOf
              rw [if_pos HER.out.symm]
            have hbl := HBL.out
            have hel := HEL.out
            refine ⟨?_, rfl, ⟨pre.map (·.1), x.1, X1, D1, M', HMW.out, HMP.out, HA.out, by rw [← HCM.out, ← HER.out]; decide, ?_, ?_, ?_⟩, ?_⟩
            · refine HKF.out.trans (KeepsFrom.trans (keeps_chg2 HC3.out (fun i hi hS => ?_)) (keeps_chg2 hW4 (fun i hi hS => ?_)))
              · rcases hS with q | q | q
                · have := HFL.out i q; omega
                · omega
                · have := HJL.out i q; omega
              · have e : i = w.heap.size + 1 := hS
                omega
            · rw [← HCM.out, hst]
              exact HE3.out.other HBR3.out (by decide) (by decide) (by decide) (by decide) (by decide) (by decide) (fun hk => by have := HOW.out _ hk; omega) hW4
            · rw [← HCM.out, hst]
              exact (dev_one HD3.out HBR3.out hW4 (by decide) (by decide) (by decide) (by decide)).at_
            · rw [← HCM.out, hst, ← HEW.out]
              exact hb4
            · exact (HCC.out.trans HC3.out).then hW4 (fun i hi hS => by have e : i = w.heap.size + 1 := hS; omega)
        case done =>
          intro Dd xs U hDd hS hI hK
          have HI := Lib.hid hI
          have HK := Lib.hid hK
          have HS := Lib.hid hS
          have r2 := hI.br.cell 0
          have rf2 := hI.br.frozen 0
          simp at r2
          clear hI hK hS
          go_wp2_with fail
          have hW : Chg (fun i => i = w.heap.size + 1) U (U.setCell ⟨w.heap.size + 1, 0, none⟩ (.int .i64 0)) := chg_setCell U ⟨w.heap.size + 1, 0, none⟩ _
          have hb3 : Blk (U.setCell ⟨w.heap.size + 1, 0, none⟩ (.int .i64 0)) (w.heap.size + 1) tErrn #[.int .i64 0] := by have := HI.out.br.set_ 0 (.int .i64 0); simpa using this
          have hbl := HBL.out
          have hwv := HWV.out
          have hK3 := hW.at_ HK.out (fun e => by have e1 : Dd = w.heap.size + 1 := e; omega)
          have q3 := (put_cell2 hK3 hb3).cell 0
          simp at q3
          obtain ⟨X', D', p1, p2, p3, p4⟩ := HI.out.st
          have hgo := p1.go (mkN nb) HS.out (mkN nb) (Nat.le_refl _)
          rw [Nat.sub_self] at hgo
          have hrm : X.rm D ks = (0, X', D') := by
            unfold Eng.rm
            rw [← HL.out, ← HNB.out, hgo]
            rfl
          rw [hrm]
          have he3 := p3.other HI.out.br (by decide) (by decide) (by decide) (by decide) (by decide) (by decide) (fun hk => by have := HOW.out _ hk; omega) hW
          have hd3 := dev_one (N := U.heap.size) p4 HI.out.br hW (by decide) (by decide) (by decide) (by decide)
          have hcp : Chg (fun i => i = Dd) _ ((U.setCell ⟨w.heap.size + 1, 0, none⟩ (.int .i64 0)).putObj Dd (.deferred none)) := put_chg2 _ Dd _
          have hne : ∀ g T cs, Blk (U.setCell ⟨w.heap.size + 1, 0, none⟩ (.int .i64 0)) g T cs → ¬ g = Dd := by
            rintro g T cs hb rfl
            unfold Blk at hb
            rw [hb] at hK3
            cases hK3
          refine ⟨by simp, .inl ⟨_, _, rfl, run_takeDeferred hK3, ?_⟩⟩
          refine ⟨.int .i64 0, by simp [results, Tryz.results19, go_sem, q3], t.j.M, rfl, ⟨?_, .inl rfl⟩, ?_, ?_⟩
          · exact he3.chgS hcp hne (fun e => by have := HJM.out; have e1 : t.j.M = Dd := e; omega) (fun k' hk' e => by have := HOG.out k' hk'; have e1 : k' = Dd := e; omega)
          · exact (hd3.chg hcp (fun e => by have := HFL.out _ (.inl rfl); omega) (fun e => by have := HFL.out _ (.inr (.inl rfl)); omega) (fun e => by have := HFL.out _ (.inr (.inr rfl)); omega) (fun g cs T _ _ hb => hne _ _ _ hb)).at_
          · exact (HI.out.chg.then hW (fun i hi e => by have e1 : i = w.heap.size + 1 := e; omega)).then hcp (fun i hi e => by have e1 : i = Dd := e; omega)
        case stop =>
          intro Dd cd pre U hDd hSp hX hK
          have hret := hX.ret
          subst hret
          obtain ⟨js, j, X', D', M', q0, q1, q2, q3, q4, q5, q6⟩ := hX.st
          obtain ⟨kk, hkk, e2⟩ := hSp
          rw [q1] at e2
          have hlen : js.length + 1 = kk := by have := congrArg List.length e2; simpa using this
          rw [← hlen, List.range_succ] at e2
          obtain ⟨e3, e4⟩ := List.append_inj' e2 rfl
          injection e4 with e4
          have hgo := q2.go js.length e3 (mkN nb) (by omega)
          obtain ⟨mm, hmm⟩ : ∃ mm, mkN nb - js.length = mm + 1 := ⟨mkN nb - js.length - 1, by omega⟩
          rw [hmm] at hgo
          rw [e4] at q3 q4 q5 q6
          rw [Eng.rmGo_stop q3] at hgo
          have HH := Lib.hid (And.intro q0 (And.intro hgo (And.intro q4 (And.intro q5 (And.intro q6 (And.intro hX.chg hK))))))
          clear hgo q0 q1 q2 q3 q4 q5 q6 hX hK hkk e2 e3 e4 hlen hmm
          refine wpIn_ret ?_
          go_wp2_with fail
          obtain ⟨q0, hgo, q4, q5, q6, hchg, hK⟩ := HH.out
          have q3 := (put_cell2 hK q6).cell 0
          simp at q3
          have hrm : X.rm D ks = X'.stopOf D' (Eng.ckm l js.length) := by
            unfold Eng.rm
            rw [← HL.out, ← HNB.out, hgo]
          rw [hrm]
          have hbl := HBL.out
          have hwv := HWV.out
          have hcp : Chg (fun i => i = Dd) U (U.putObj Dd (.deferred none)) := put_chg2 _ Dd _
          have hne : ∀ g T cs, Blk U g T cs → ¬ g = Dd := by
            rintro g T cs hb rfl
            unfold Blk at hb
            rw [hb] at hK
            cases hK
          have hM : ¬ M' = Dd := by
            intro e
            obtain ⟨arr, clock, hb, _⟩ := q4.jn.map
            have e2 : ({ t with j := ⟨t.j.J, M'⟩ } : EngH).j.M = M' := rfl
            rw [e2, e, hK] at hb
            cases hb
          refine ⟨by simp, .inl ⟨_, _, rfl, run_takeDeferred hK, ?_⟩⟩
          refine ⟨.int .i64 (X'.stopOf D' (Eng.ckm l js.length)).1, by simp [results, Tryz.results19, go_sem, q3], rfl, ⟨M', ?_, q0⟩, ?_, ?_⟩
          · exact q4.chgS hcp hne hM (fun k' hk' e => by have := HOG.out k' hk'; have e1 : k' = Dd := e; omega)
          · exact (DevN.chg (N := U.heap.size) q5 hcp (fun e => by have := HFL.out _ (.inl rfl); omega) (fun e => by have := HFL.out _ (.inr (.inl rfl)); omega) (fun e => by have := HFL.out _ (.inr (.inr rfl)); omega) (fun g cs T _ _ hb => hne _ _ _ hb)).at_
          · exact hchg.then hcp (fun i hi e => by have e1 : i = Dd := e; omega)
end
end Go.Proofs.YtplpbbdakihnfaaGreat
end
