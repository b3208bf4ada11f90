/- bucket.Open. -/
import Derived.Test.YtinofdfjaopdcaaBuckD
namespace Go.Proofs.Ytinofdfjaopdcaa
open Go.RowKit
set_option linter.unusedSimpArgs false
set_option linter.unusedVariables false

/-- a filter that was told these items' keys -/
def told (l : List Item) (bs : List Bool) : List Bool := l.foldl (fun bs x => fadd bs (places 256 3 x.key.data.toList)) bs
def Sto.open_ (D : Dev) (first : Int) (n : Nat) : Sto :=
  { losses := D.losses, first := first, fs := (List.range n).map fun (i : Nat) => told (({ losses := D.losses, first := first, fs := [] } : Sto).lL D (i : Int)) (List.replicate 256 false) }

theorem lL_fs (a b : Int) (fs gs : List (List Bool)) (D : Dev) (i : Int) : ({ losses := a, first := b, fs := fs } : Sto).lL D i = ({ losses := a, first := b, fs := gs } : Sto).lL D i := rfl

theorem told_take {l : List Item} {k : Nat} {x : Item} (hx : l[k]? = some x) (bs : List Bool) : told (l.take (k + 1)) bs = fadd (told (l.take k) bs) (places 256 3 x.key.data.toList) := by
  unfold told
  rw [List.take_add_one, hx, List.foldl_append]; rfl

def ptrs (ps : List (Nat × Nat)) : List Value := ps.map fun p => Value.pointer (some ⟨p.1, 0, none⟩)
theorem ptrs_length (ps : List (Nat × Nat)) : (ptrs ps).length = ps.length := by simp [ptrs]
theorem ti_pf : TI Try.prog tPF (.pointer none) 1 8 := (by kernel_rfl : (Try.prog.info? tPF).map (fun i => (i.zero, i.size, i.bytes)) = some (some (.pointer none), 1, 8))

set_option maxRecDepth 100000 in
set_option maxHeartbeats 1000000 in
theorem open_calls {N : Nat} {w : World} {h : DevH} {D : Dev} (hd : DevN N w h D) (first pages : Nat) (hp : 1 ≤ pages) (hp2 : pages ≤ 256) (hfit : first + pages ≤ D.n) (hoff : D.off = false)
    (he : ∀ i : Nat, i < pages → ({ losses := D.losses, first := first, fs := [] } : Sto).lE D i = 0) :
    Calls Try.prog 25 #[.pointer (some ⟨h.d, 0, none⟩), .int .i64 first, .int .i64 pages] w fun e w' => ∃ t : StoH, e = .returned (.tuple #[.pointer (some ⟨t.s, 0, none⟩), .int .i64 0]) ∧
      DevN N w' h D ∧ StoAt w' h t (Sto.open_ D first pages) ∧ Chg h.foot w w' ∧ (∀ p ∈ t.ps, w.heap.size ≤ p.2) := by
  have HP := fun W => Lib.hid (fun hc : Chg No w W => pages_calls (hd.chgNo hc))
  have HPO := fun W => Lib.hid (fun hc : Chg No w W => power_calls (hd.chgNo hc))
  rw [hoff] at HPO
  have HLO := fun W => Lib.hid (fun hc : Chg No w W => losses_calls (hd.chgNo hc))
  have hm := hd.nmost
  obtain ⟨n, hnn⟩ : ∃ n, n = D.n := ⟨_, rfl⟩
  rw [← hnn] at HP hfit hm
  have HD := Lib.hid hd
  have HE := Lib.hid he
  have q1 : ¬ (first : Int) < 0 := by omega
  have q2 : ¬ (pages : Int) < 1 := by omega
  have q3 : ¬ (256 : Int) < pages := by omega
  have q4 : ¬ (n : Int) < first := by omega
  have q5 : ¬ (n : Int) - first < pages := by omega
  have q6 : IntKind.i64.wrap ((n : Int) - (first : Int)) = (n : Int) - (first : Int) := IntWalk.i64_in _ (by omega)
  have b1 : decide ((first : Int) < 0) = false := by simp
  have b2 : decide ((pages : Int) < 1) = false := by simp; omega
  have b3 : decide ((256 : Int) < pages) = false := by simp; omega
  have b4 : decide ((n : Int) < first) = false := by simp; omega
  have b5 : decide ((n : Int) - first < pages) = false := by simp; omega
  clear hd he hnn hoff
  go_enter Try.func25, Try.ntmps25
  go_wp2_with fail
  refine ((HP _).out (by (repeat (first | (with_reducible exact Chg.refl _ _) | (with_reducible assumption) | (with_reducible refine Chg.drewN ?_ _) | (with_reducible refine Chg.drew ?_) | (with_reducible refine Chg.alloc ?_ _) | (with_reducible refine Chg.setCell ?_ (by first | (left; simp [DevH.foot]; done) | (right; simp; done) | (right; simp; omega)) _))))).mono ?_
  rintro e w1 ⟨rfl, rfl⟩
  go_wp2_with fail
  refine ((HP _).out (by (repeat (first | (with_reducible exact Chg.refl _ _) | (with_reducible assumption) | (with_reducible refine Chg.drewN ?_ _) | (with_reducible refine Chg.drew ?_) | (with_reducible refine Chg.alloc ?_ _) | (with_reducible refine Chg.setCell ?_ (by first | (left; simp [DevH.foot]; done) | (right; simp; done) | (right; simp; omega)) _))))).mono ?_
  rintro e w1 ⟨rfl, rfl⟩
  go_wp2_with fail
  refine ((HPO _).out (by (repeat (first | (with_reducible exact Chg.refl _ _) | (with_reducible assumption) | (with_reducible refine Chg.drewN ?_ _) | (with_reducible refine Chg.drew ?_) | (with_reducible refine Chg.alloc ?_ _) | (with_reducible refine Chg.setCell ?_ (by first | (left; simp [DevH.foot]; done) | (right; simp; done) | (right; simp; omega)) _))))).mono ?_
  rintro e w1 ⟨rfl, rfl⟩
  go_wp2_with fail
  refine ((HLO _).out (by (repeat (first | (with_reducible exact Chg.refl _ _) | (with_reducible assumption) | (with_reducible refine Chg.drewN ?_ _) | (with_reducible refine Chg.drew ?_) | (with_reducible refine Chg.alloc ?_ _) | (with_reducible refine Chg.setCell ?_ (by first | (left; simp [DevH.foot]; done) | (right; simp; done) | (right; simp; omega)) _))))).mono ?_
  rintro e w1 ⟨rfl, rfl⟩
  go_wp2
  obtain ⟨B0, hB0⟩ : ∃ B0 : Sto, B0 = { losses := D.losses, first := first, fs := [] } := ⟨_, rfl⟩
  have HB0 := Lib.hid hB0
  have HS0 : Hid (Blk (w.alloc (.cells #[.pointer (some ⟨h.d, 0, none⟩), .int .i64 D.losses, .int .i64 first, .slice none 0 0] tStore)) w.heap.size tStore #[.pointer (some ⟨h.d, 0, none⟩), .int .i64 D.losses, .int .i64 first, .slice none 0 0]) := Blk.new _ _ _
  have HE0 : Hid (∀ i : Nat, i < pages → B0.lE D i = 0) := by show ∀ i : Nat, i < pages → B0.lE D i = 0; rw [hB0]; exact HE.out
  have HOP : Hid (Sto.open_ D first pages = { losses := D.losses, first := first, fs := (List.range pages).map fun (i : Nat) => told (B0.lL D (i : Int)) (List.replicate 256 false) }) := by show _ = _; rw [hB0]; rfl
  have HLI := fun (i : Nat) (hi : i ≤ 256) (W : World) (vf : Value) => Lib.hid (fun (hdv : DevN N W h D) (hb : Blk W w.heap.size tStore #[.pointer (some ⟨h.d, 0, none⟩), .int .i64 D.losses, .int .i64 first, vf]) =>
    blist0_calls (B := B0) hdv (by rw [hB0]; exact hb) (by rw [hB0]; exact ⟨by omega, by show (first : Int) ≤ 4096; omega⟩) i hi)
  clear hB0 HE
  go_loopg [52] pages (fun g v52 wr => ∃ (k : Nat) (vf : Value) (ps : List (Nat × Nat)), v52 = .int .i64 k ∧ k ≤ pages ∧ pages - k = g ∧
    Hid (Blk wr w.heap.size tStore #[.pointer (some ⟨h.d, 0, none⟩), .int .i64 D.losses, .int .i64 first, vf] ∧ wr.ownsRow (w.heap.size + 1) tPF 1 vf k (ptrs ps) ∧ ps.length = k ∧
      (∀ (j : Nat) (p : Nat × Nat), ps[j]? = some p → Flt wr p.1 p.2 (told (B0.lL D (j : Int)) (List.replicate 256 false))) ∧ (ps.map (·.2)).Nodup ∧ (∀ p ∈ ps, w.heap.size < p.2) ∧ DevN N wr h D ∧ Chg h.foot w wr))
  case atStart => exact ⟨0, _, [], rfl, by omega, by omega, ⟨HS0.out, World.ownsRow_nil _ _ _ _, rfl, by simp, by simp, by simp, HD.out.chgNo (by (repeat (first | (with_reducible exact Chg.refl _ _) | (with_reducible assumption) | (with_reducible refine Chg.drewN ?_ _) | (with_reducible refine Chg.drew ?_) | (with_reducible refine Chg.alloc ?_ _) | (with_reducible refine Chg.setCell ?_ (by first | (left; simp [DevH.foot]; done) | (right; simp; done) | (right; simp; omega)) _)))), by (repeat (first | (with_reducible exact Chg.refl _ _) | (with_reducible assumption) | (with_reducible refine Chg.drewN ?_ _) | (with_reducible refine Chg.drew ?_) | (with_reducible refine Chg.alloc ?_ _) | (with_reducible refine Chg.setCell ?_ (by first | (left; simp [DevH.foot]; done) | (right; simp; done) | (right; simp; omega)) _)))⟩⟩
  case round =>
    obtain ⟨k, vf, ps, rfl, hk, hgn, H⟩ := hrel
    subst hgn
    obtain ⟨wo, hwo⟩ : ∃ wo, wo = wr := ⟨_, rfl⟩
    subst hwo
    by_cases h0 : k < pages
    · have hfr := bnew_calls wo
      have HFR := Lib.hid hfr
      clear hfr
      go_wp2_with fail
      refine HFR.out.mono ?_
      rintro e w2 ⟨p, q, rfl, hp1, hq1, hf2, hc2⟩
      have HF2 := Lib.hid hf2
      have HC2 := Lib.hid hc2
      have HLL := Lib.hid ((HLI k (by omega) w2 vf).out (H.out.2.2.2.2.2.2.1.chgNo hc2) (H.out.1.chg hc2 (fun h => h)))
      rw [HE0.out k h0] at HLL
      have hll := lL_le HD.out B0 k
      have hlg := lL_good B0 D k
      obtain ⟨l, hl⟩ : ∃ l, l = B0.lL D (k : Int) := ⟨_, rfl⟩
      rw [← hl] at HLL hll hlg
      have HLq := Lib.hid hl
      have HLG := Lib.hid hlg
      clear hf2 hc2 hl hlg
      go_wp2_with fail
      refine HLL.out.mono ?_
      rintro e w3 ⟨v3, rfl, ho3, hd3, hc3⟩
      obtain ⟨A3, c3, rfl, hnc3, hrd3⟩ := own_slice ho3
      have HRD3 := Lib.hid hrd3
      have HD3 := Lib.hid hd3
      have HC3 := Lib.hid hc3
      have HF3 := Lib.hid (HF2.out.chg hc3 (fun hf => by have := foot_lt HD.out hf; have := H.out.2.2.2.2.2.2.2.size; omega) (fun hf => by have := foot_lt HD.out hf; have := H.out.2.2.2.2.2.2.2.size; omega))
      clear ho3 hd3 hc3 hrd3
      go_wp2
      go_loopg [70] l.length (fun g v70 wx => ∃ m : Nat, v70 = .int .i64 m ∧ m ≤ l.length ∧ l.length - m = g ∧ Hid (Flt wx p q (told (l.take m) (List.replicate 256 false)) ∧ Chg (fun j => j = q) w3 wx))
      case atStart => exact ⟨0, rfl, by omega, by omega, ⟨by simpa [told] using HF3.out, Chg.refl _ _⟩⟩
      case round =>
        obtain ⟨m, rfl, hm, hgn, HX⟩ := hrel
        subst hgn
        by_cases h1 : m < l.length
        · obtain ⟨x, hx⟩ : ∃ x, l[m]? = some x := ⟨_, List.getElem?_eq_getElem h1⟩
          have hgx : x.good = true := List.all_eq_true.1 HLG.out x (List.mem_of_getElem? hx)
          simp only [Item.good, Bool.and_eq_true, decide_eq_true_eq] at hgx
          have hr1 := HRD3.out.chg HX.out.2 (by
            rintro g cur fz hg rfl
            have := HF3.out.bits
            unfold Blk at this
            rw [this] at hg
            cases hg)
          obtain ⟨g, off, rfl, hg, hc⟩ := hr1.at_ (j := m * 5) (by omega)
          have c0 := hc (m * 5 + 0) _ (its_get l m 0 x hx (by omega))
          have c1 := hc (m * 5 + 1) _ (its_get l m 1 x hx (by omega))
          have c2 := hc (m * 5 + 2) _ (its_get l m 2 x hx (by omega))
          have c3 := hc (m * 5 + 3) _ (its_get l m 3 x hx (by omega))
          have c4 := hc (m * 5 + 4) _ (its_get l m 4 x hx (by omega))
          simp only [itc, List.getElem_cons_zero, List.getElem_cons_succ, ← Nat.add_assoc, Nat.add_zero] at c0 c1 c2 c3 c4
          have HAA := fun W => Lib.hid (fun hc : Chg No wr W => badd_calls p q _ x.key W (HX.out.1.chg hc (fun h => h) (fun h => h)) (by omega))
          rw [← told_take hx] at HAA
          have HXX := Lib.hid hx
          clear hx hr1 hc hgx
          go_wp2_with fail
          refine ((HAA _).out (by (repeat (first | (with_reducible exact Chg.refl _ _) | (with_reducible assumption) | (with_reducible refine Chg.drewN ?_ _) | (with_reducible refine Chg.drew ?_) | (with_reducible refine Chg.alloc ?_ _) | (with_reducible refine Chg.setCell ?_ (by first | (left; simp [DevH.foot]; done) | (right; simp; done) | (right; simp; omega)) _))))).mono ?_
          rintro e w5 ⟨rfl, hf5, hc5⟩
          have HF5 := Lib.hid hf5
          have HC5 : Hid (Chg (fun j => j = q) w3 w5) := (HX.out.2.alloc _).trans hc5
          clear hf5 hc5
          go_wp2
          go_roundg (l.length - (m + 1))
          case measure => omega
          case rel => exact ⟨m + 1, rfl, by omega, rfl, HF5.out, HC5.out⟩
        · have e3 : m = l.length := by omega
          have hff := HX.out.1
          rw [e3, List.take_length] at hff
          have HFX := Lib.hid hff
          have hCX : Chg (fun j => h.foot j ∨ j = q) wo wr := ((HC2.out.mono (fun _ _ h => h.elim)).trans (HC3.out.mono (fun _ _ h => .inl h))).trans (HX.out.2.mono (fun _ _ h => .inr h))
          have HCX := Lib.hid hCX
          have hfoot : ∀ j, h.foot j → j < w.heap.size := fun j hj => foot_lt HD.out hj
          have HFO := Lib.hid hfoot
          have hws : w.heap.size < wo.heap.size := H.out.1.lt
          have hbs := H.out.1.chg hCX (by rintro (h | h); · have := hfoot _ h; omega
                                          · omega)
          have hox := own_chg H.out.2.1 hCX (by
            intro j hj hS
            have h1 := own_new H.out.2.1 j hj
            rcases hS with h | h
            · have := hfoot _ h; omega
            · have h2 := (H.out.2.1).lt j hj
              omega)
          have HBS := Lib.hid hbs
          have HOX := Lib.hid hox
          have b3 := hbs.cell 3
          simp at b3
          have hwx : w.heap.size < wr.heap.size := hbs.lt
          clear hff hCX hfoot hbs hox
          go_wp2_with (first
            | (at_builtin; go_loud (refine wpList_app _ rfl (.tmp 83) (.tmp 85) 103 rfl tPF Try.underlying103 ti_pf rfl (by omega) (w.heap.size + 1) _ k (ptrs ps) rfl (HOX.out.alloc _) tPF _ 1 1 (ptrs [(p, q)]) rfl (Rd.ofBlk (k := 1) (Blk.new _ _ _) (by simp)) (by simp [ptrs, Value.oneCell']) (by simp only [maxLen]; omega) (by omega) (by simp; omega) ?_); intro v2 w4 ho2 hg2 hb2; obtain ⟨A4, c4, rfl, hnc4, _⟩ := own_slice ho2; have HO4 := Lib.hid ho2; have HC4 : Hid (Chg (fun j => vf.ownBlock = some j) wr w4) := ((Chg.refl _ _).alloc _).grown hg2 (fun _ h => .inl h); have HB4 := Lib.hid (HBS.out.chg HC4.out (fun h => by have := own_new HOX.out _ h; omega)); have x3 := HB4.out.cell 3; simp at x3; have y3 := HB4.out.frozen 3; clear ho2 hg2 hb2))
          go_roundg (pages - (k + 1))
          case measure => omega
          case rel =>
            have hq4 := hq1
            have hp4 := hp1
            have hfx := HFX.out
            have n1 : ∀ {j : Nat} {cs : Array Value} {T : TypeId}, T ≠ tPF → Blk wr j T cs → vf.ownBlock ≠ some j := fun hT hb => own_other HOX.out hb hT
            have hch : Chg (fun j => vf.ownBlock = some j ∨ j = w.heap.size) wr (w4.setCell ⟨w.heap.size, 3, none⟩ (.slice A4 (k + 1) c4)) :=
              (HC4.out.mono (fun _ _ h => .inl h)).setCell (.inl (.inr rfl)) _
            have hcw : Chg (fun j => h.foot j ∨ j = q ∨ vf.ownBlock = some j ∨ j = w.heap.size) wo (w4.setCell ⟨w.heap.size, 3, none⟩ (.slice A4 (k + 1) c4)) :=
              (HCX.out.mono (fun _ _ h => by rcases h with h | h; · exact .inl h
                                             · exact .inr (.inl h))).trans (hch.mono (fun _ _ h => .inr (.inr h)))
            have hfin := devN_new HD.out HD3.out ((H.out.2.2.2.2.2.2.2.trans (HC2.out.mono (fun _ _ h => h.elim))).trans HC3.out) ((HX.out.2.mono (fun j _ e => (by subst e; omega : w.heap.size ≤ j))).trans (hch.mono (fun j _ hj => by
              rcases hj with hj | hj
              · have := own_new HOX.out j hj; omega
              · omega)))
            refine ⟨k + 1, .slice A4 (k + 1) c4, ps ++ [(p, q)], rfl, by omega, rfl, ?_, ?_, ?_, ?_, ?_, ?_, ?_, ?_⟩
            · have := HB4.out.set_ 3 (.slice A4 (k + 1) c4)
              simpa using this
            · have h1 := own_chg HO4.out (chg_setCell w4 ⟨w.heap.size, 3, none⟩ (.slice A4 (k + 1) c4)) (fun j hj e => by have := own_new HO4.out j hj; have e2 : j = w.heap.size := e; omega)
              have e : ptrs (ps ++ [(p, q)]) = ptrs ps ++ ptrs [(p, q)] := by simp [ptrs]
              rw [e]
              exact h1
            · simp [H.out.2.2.1]
            · intro j p' hj
              by_cases hjk : j < k
              · rw [List.getElem?_append_left (by rw [H.out.2.2.1]; exact hjk)] at hj
                have hf := H.out.2.2.2.1 j p' hj
                have hp2 := H.out.2.2.2.2.2.1 p' (List.mem_of_getElem? hj)
                have hl2 := hf.bits.lt
                have hl1 := hf.head.lt
                refine hf.chg hcw ?_ ?_
                · rintro (h | h | h | h)
                  · exact H.out.2.2.2.2.2.2.1.not_foot hf.head (by decide) (by decide) h
                  · omega
                  · exact own_other H.out.2.1 hf.head (by decide) h
                  · exact hf.head.ne_ H.out.1 (by decide) h
                · rintro (h | h | h | h)
                  · have := HFO.out _ h; omega
                  · omega
                  · exact own_other H.out.2.1 hf.bits (by decide) h
                  · omega
              · have hjl : j < (ps ++ [(p, q)]).length := (List.getElem?_eq_some_iff.1 hj).1
                have hjk2 : j = k := by simp [H.out.2.2.1] at hjl; omega
                subst hjk2
                rw [List.getElem?_append_right (by rw [H.out.2.2.1]; exact Nat.le_refl _), H.out.2.2.1, Nat.sub_self] at hj
                simp at hj
                subst hj
                rw [← HLq.out]
                refine hfx.chg hch ?_ ?_
                · rintro (h | h)
                  · exact n1 (by decide) hfx.head h
                  · exact hfx.head.ne_ HBS.out (by decide) h
                · rintro (h | h)
                  · exact n1 (by decide) hfx.bits h
                  · exact hfx.bits.ne_ HBS.out (by decide) h
            · rw [List.map_append, List.nodup_append]
              refine ⟨H.out.2.2.2.2.1, by simp, ?_⟩
              intro a ha b hb
              simp at hb
              subst hb
              obtain ⟨p', hp', rfl⟩ := List.mem_map.1 ha
              obtain ⟨j, hj⟩ := List.mem_iff_getElem?.1 hp'
              have := (H.out.2.2.2.1 j p' hj).bits.lt
              omega
            · intro p' hp'
              rcases List.mem_append.1 hp' with h | h
              · exact H.out.2.2.2.2.2.1 p' h
              · simp at h; subst h; show w.heap.size < q; omega
            · exact hfin.1
            · exact hfin.2
    · have e3 : k = pages := by omega
      subst e3
      go_wp2
      go_ret2
      rcases H.out.2.1.2 with ⟨rfl, h0⟩ | ⟨G, cap, cur, rfl, hbG, hgG, hncG, hcmG, hcsG, htkG⟩
      · omega
      · refine ⟨⟨w.heap.size, G, cap, ps⟩, rfl, H.out.2.2.2.2.2.2.1, ?_, H.out.2.2.2.2.2.2.2, fun p hp => Nat.le_of_lt (H.out.2.2.2.2.2.1 p hp)⟩
        rw [HOP.out]
        refine { box := by simpa using H.out.1, row := ⟨cur, hgG, ?_⟩, len := by simp [H.out.2.2.1], flt := ?_, apart := H.out.2.2.2.2.1, most := by simpa using hp2, fit := ⟨by show (0 : Int) ≤ first; omega, by show (first : Int) ≤ 4096; omega⟩ }
        · intro i p hp
          have h1 : (ptrs ps)[i]? = some (.pointer (some ⟨p.1, 0, none⟩)) := by simp [ptrs, hp]
          rw [← htkG, List.getElem?_take] at h1
          split at h1
          · simpa using h1
          · cases h1
        · intro i p bs hp hb
          have hil : i < ps.length := (List.getElem?_eq_some_iff.1 hp).1
          rw [H.out.2.2.1] at hil
          simp [hil] at hb
          subst hb
          exact H.out.2.2.2.1 i p hp
end Go.Proofs.Ytinofdfjaopdcaa
