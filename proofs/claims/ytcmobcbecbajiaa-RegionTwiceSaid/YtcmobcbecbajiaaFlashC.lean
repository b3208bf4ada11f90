/- The flash device's New and Read. -/
import Derived.Test.YtcmobcbecbajiaaFlashB
namespace Go.Proofs.Ytcmobcbecbajiaa
open Go.RowKit
open Go.ChangeMaps (setBlock)
set_option linter.unusedSimpArgs false
set_option linter.unusedVariables false

theorem new_bad (n : Int) (w : World) (hn : ¬ (1 ≤ n ∧ n ≤ 4096)) :
    Calls Try.prog 14 #[.int .i64 n] w fun e w' => e = .returned (.tuple #[.pointer none, .int .i64 1]) ∧ w = w' := by
  by_cases c1 : n < 1
  · clear hn
    go_enter Try.func14, Try.ntmps14
    go_wp2
    go_ret2
    exact ⟨rfl, rfl⟩
  · have c2 : 4096 < n := by omega
    clear hn
    go_enter Try.func14, Try.ntmps14
    go_wp2
    go_ret2
    exact ⟨rfl, rfl⟩

set_option maxRecDepth 100000 in
theorem new_calls (n : Int) (w : World) (h1 : 1 ≤ n) (h2 : n ≤ 4096) :
    Calls Try.prog 14 #[.int .i64 n] w fun e w' => ∃ h : DevH, e = .returned (.tuple #[.pointer (some ⟨h.d, 0, none⟩), .int .i64 0]) ∧ DevAt w' h (Dev.new n.toNat) ∧ Chg No w w' ∧ ∀ k, h.foot k → w.heap.size ≤ k := by
  obtain ⟨n, rfl⟩ := Int.eq_ofNat_of_zero_le (show 0 ≤ n by omega)
  rw [Int.toNat_natCast]
  have hmk := run_mk (P := Try.prog) w Try.underlying76 ti_pp rfl n (by omega) (by omega)
  have hmm := @run_makeMap Try.prog
  go_enter Try.func14, Try.ntmps14
  go_wp2
  go_ret2
  refine ⟨⟨w.heap.size + 1 + 1, w.heap.size, w.heap.size + 1⟩, rfl, ?_, by (repeat (first | (with_reducible exact Chg.refl _ _) | (with_reducible assumption) | (with_reducible refine Chg.drewN ?_ _) | (with_reducible refine Chg.drew ?_) | (with_reducible refine Chg.alloc ?_ _) | (with_reducible refine Chg.setCell ?_ (by first | (left; simp [DevH.foot]; done) | (right; simp; done) | (right; simp; omega)) _))), ?_⟩
  · refine { box := ⟨0, 0, 0, 0, ?_⟩, row := ⟨List.replicate n (.pointer none), ?_, by simp [Dev.new], ?_⟩, map := ⟨[], ?_, ?_, ?_⟩, npos := by simp only [Dev.new]; omega, nmost := by simp only [Dev.new]; omega, armed := by simp [Dev.new], below := Nat.le_refl _ }
    · have := Blk.new ((w.alloc (.cells (mk n (.pointer none)) tPP)).alloc (.map #[] 0)) tDev #[.slice (some ⟨w.heap.size, 0, none⟩) n n, .map (some (w.heap.size + 1)), .bool false, .int .i64 0, .int .i64 0, .int .i64 0, .int .i64 0, .int .i64 0, .int .i64 0]
      simpa [Dev.new] using this
    · exact ((Blk.new w tPP (mk n (.pointer none))).alloc _).alloc _
    · intro i v hv
      rw [List.getElem?_replicate] at hv
      split at hv
      · injection hv with hv; exact hv.symm
      · cases hv
    · have := (MapIs.made ikey (w.alloc (.cells (mk n (.pointer none)) tPP)))
      have h2 := this.alloc (.cells #[.slice (some ⟨w.heap.size, 0, none⟩) n n, .map (some (w.heap.size + 1)), .bool false, .int .i64 0, .int .i64 0, .int .i64 0, .int .i64 0, .int .i64 0, .int .i64 0] tDev)
      simpa using h2
    · intro k v h; cases h
    · intro i pg h; cases h
  · rintro k (rfl | rfl | rfl) <;> simp <;> omega

theorem zero_pp (w : World) : (zeroValue tPP).run Try.prog w = .ok (.pointer none) w := by kernel_rfl

/-- what stands on a page, as the memory has it -/
theorem page_at {N : Nat} {w : World} {h : DevH} {D : Dev} (hd : DevN N w h D) (k : Nat) (hk : k < D.n) : ∃ (es : List (Int × Value)) (ps : List Value), MapIs ikey w h.M es ∧ Blk w h.F tPP ps.toArray ∧ ps.length = D.n ∧
    ((∃ v, aget es (k : Int) = some v ∧ PgAt N w v (D.page k)) ∨ (aget es (k : Int) = none ∧ ∃ v, ps[k]? = some v ∧ PgAt N w v (D.page k))) := by
  obtain ⟨es, hm, hw1, hw2⟩ := hd.map
  obtain ⟨ps, hb, hl, hp⟩ := hd.row
  refine ⟨es, ps, hm, hb, hl, ?_⟩
  cases hg : aget es (k : Int) with
  | some v =>
    obtain ⟨i, pg, e1, e2, e3, e4⟩ := hw1 _ _ (aget_mem hg)
    obtain rfl : k = i := by omega
    exact .inl ⟨v, rfl, by simpa [Dev.page, e3] using e4⟩
  | none =>
    have hv : ps[k]? = some (ps[k]'(by omega)) := List.getElem?_eq_getElem (by omega)
    refine .inr ⟨rfl, _, hv, ?_⟩
    have : D.wt k = none := by
      cases hw : D.wt k with
      | none => rfl
      | some pg => obtain ⟨v, hv2⟩ := hw2 k pg hw; rw [hg] at hv2; cases hv2
    simpa [Dev.page, this] using hp k _ hv

/-- a world that is w but for the number of reads -/
theorem read_counted {N : Nat} {w : World} {h : DevH} {D : Dev} (hd : DevN N w h D) {a : Int} (q : Int) (ha : w.cell? ⟨h.d, 7, none⟩ = some (.int .i64 a)) :
    DevN N (w.setCell ⟨h.d, 7, none⟩ (.int .i64 q)) h D ∧ Chg h.foot w (w.setCell ⟨h.d, 7, none⟩ (.int .i64 q)) := by
  obtain ⟨s0, s1, s2, s3, hb⟩ := hd.box
  obtain ⟨nF, nM, nMF⟩ := hd.apart
  have hc : Chg (fun i => i = h.d) w (w.setCell ⟨h.d, 7, none⟩ (.int .i64 q)) := chg_setCell w ⟨h.d, 7, none⟩ _
  have hk : ∀ g cs t, g < N → (t = tPage ∨ t = tU8) → Blk w g t cs → ¬ g = h.d := fun g cs t _ ht hb2 e => by
    refine hd.not_foot hb2 ?_ ?_ (.inl e) <;> rcases ht with rfl | rfl <;> decide
  refine ⟨{ hd with box := ⟨s0, s1, q, s3, ?_⟩, row := ?_, map := ?_, below := Nat.le_trans hd.below hc.size }, hc.mono (fun k _ e => .inl e)⟩
  · have := hb.set_ 7 (.int .i64 q)
    simpa using this
  · obtain ⟨ps, g1, g2, g3⟩ := hd.row
    exact ⟨ps, g1.chg hc nF, g2, fun i v hv => (g3 i v hv).chg hc hk⟩
  · obtain ⟨es, g1, g2, g3⟩ := hd.map
    exact ⟨es, g1.chg hc nM, WaitAt.chg ⟨g2, g3⟩ (fun v p h => h.chg hc hk)⟩

theorem read_calls {N : Nat} {w : World} {h : DevH} {D : Dev} (hd : DevN N w h D) (k : Int) :
    Calls Try.prog 36 #[.pointer (some ⟨h.d, 0, none⟩), .int .i64 k] w fun e w' => ∃ v, e = .returned (.tuple #[v, .int .i64 (D.readE k)]) ∧ w'.ownsRow w.heap.size tU8 1 v (D.read k).length (bys (D.read k)) ∧ DevN N w' h D ∧ Chg h.foot w w' := by
  have hhas := Lib.hid (has_calls hd k)
  by_cases c0 : D.has k = true
  · rw [c0] at hhas
    obtain ⟨s0, s1, s2, s3, hb⟩ := hd.box
    have h0 := hb.cell 0
    have h1 := hb.cell 1
    have h2 := hb.cell 2
    have h7 := hb.cell 7
    simp at h0 h1 h2 h7
    have f7 := hb.frozen 7
    by_cases c1 : D.off = true
    · rw [show D.readE k = 4 from by simp [Dev.readE, c0, c1], show D.read k = [] from by simp [Dev.read, c0, c1]]
      rw [c1] at h2
      have F : Hid (w.ownsRow w.heap.size tU8 1 (.slice none 0 0) 0 (bys []) ∧ DevN N w h D ∧ Chg h.foot w w) := ⟨World.ownsRow_nil _ _ _ _, hd, Chg.refl _ _⟩
      clear hd hb c0 c1
      go_enter Try.func36, Try.ntmps36
      go_wp2_with fail
      refine hhas.out.mono ?_
      rintro e w1 ⟨rfl, rfl⟩
      go_wp2
      go_ret2
      exact ⟨_, rfl, F.out⟩
    · have c1' : D.off = false := by simpa using c1
      rw [c1'] at h2
      have hk : 0 ≤ k ∧ k < D.n := by simpa [Dev.has] using c0
      obtain ⟨n, rfl⟩ := Int.eq_ofNat_of_zero_le hk.1
      have hkn : n < D.n := by omega
      obtain ⟨hd1, hc1⟩ := read_counted hd (wrap64 (s2 + 1)) h7
      have e1 : D.readE (n : Int) = (D.page n).err := by simp [Dev.readE, c0, c1']
      have e2 : D.read (n : Int) = (D.page n).data := by simp [Dev.read, c0, c1']
      rw [e1, e2]
      obtain ⟨w1, hw1⟩ : ∃ w1, w1 = w.setCell ⟨h.d, 7, none⟩ (.int .i64 (wrap64 (s2 + 1))) := ⟨_, rfl⟩
      rw [← hw1] at hd1 hc1
      obtain ⟨es, ps, hm, hF, hl, hpage⟩ := page_at hd1 n hkn
      have hlook := hm.lookup (keyLaw_int (Try.underlying3)) Try.underlying77 (zero_pp w1) (n : Int) true
      obtain ⟨s0', s1', s2', s3', hb1⟩ := hd1.box
      have g0 := hb1.cell 0
      have g1 := hb1.cell 1
      simp at g0 g1
      have hn4 := hd.nmost
      have hsz : w1.heap.size = w.heap.size := by rw [hw1]; simp
      clear e1 e2 c0 hk hb hb1 s0' s1' s2' s3' c1 c1' h0
      have hcell : ∀ v, ps[n]? = some v → w1.cell? ⟨h.F, n, none⟩ = some v := fun v hv => by
        have := hF.cell n
        rw [this]
        simpa using hv
      have hl4 : (n : Int) < (D.n : Int) := by omega
      rcases hpage with ⟨v, hg, hp⟩ | ⟨hg, v, hv, hp⟩
      all_goals
        rw [hg] at hlook
        simp at hlook
      · cases hpg : D.page n with
        | blank =>
          rw [hpg] at hp
          obtain rfl : v = .pointer none := hp
          have F : Hid (w1.ownsRow w.heap.size tU8 1 (.slice none 0 0) 0 (bys []) ∧ DevN N w1 h D ∧ Chg h.foot w w1) := ⟨World.ownsRow_nil _ _ _ _, hd1, hc1⟩
          (have SZ := Lib.hid hsz; simp only [Pg.err, Pg.data]; clear hsz hpg hd hd1 hc1 hm hF hl hg hcell hkn; subst hw1; go_enter Try.func36, Try.ntmps36; go_wp2_with fail; refine hhas.out.mono ?_; rintro e w0 ⟨rfl, rfl⟩)
          go_wp2
          go_ret2
          exact ⟨_, rfl, F.out⟩
        | torn =>
          rw [hpg] at hp
          obtain ⟨p, hpN, rfl, hpb⟩ := hp
          have p1 := hpb.cell 1
          simp at p1
          have F : Hid (w1.ownsRow w.heap.size tU8 1 (.slice none 0 0) 0 (bys []) ∧ DevN N w1 h D ∧ Chg h.foot w w1) := ⟨World.ownsRow_nil _ _ _ _, hd1, hc1⟩
          clear hpb
          (have SZ := Lib.hid hsz; simp only [Pg.err, Pg.data]; clear hsz hpg hd hd1 hc1 hm hF hl hg hcell hkn; subst hw1; go_enter Try.func36, Try.ntmps36; go_wp2_with fail; refine hhas.out.mono ?_; rintro e w0 ⟨rfl, rfl⟩)
          go_wp2
          go_ret2
          exact ⟨_, rfl, F.out⟩
        | full b =>
          rw [hpg] at hp
          obtain ⟨p, q, hpN, hqN, rfl, hpb, hqb, hbl⟩ := hp
          have p0 := hpb.cell 0
          have p1 := hpb.cell 1
          simp at p0 p1
          have hcl := Lib.hid (cloneBytes_calls (some ⟨q, 0, none⟩) 384 384 b w1 (by have := Rd.ofBlk (k := 384) hqb (by simp [bys_length, hbl]); simpa [List.take_of_length_le, bys_length, hbl] using this) (by omega))
          have HB := Lib.hid hbl
          have F := Lib.hid (And.intro hd1 hc1)
          clear hpb hqb hbl
          (have SZ := Lib.hid hsz; simp only [Pg.err, Pg.data]; clear hsz hpg hd hd1 hc1 hm hF hl hg hcell hkn; subst hw1; go_enter Try.func36, Try.ntmps36; go_wp2_with fail; refine hhas.out.mono ?_; rintro e w0 ⟨rfl, rfl⟩)
          go_wp2_with fail
          refine hcl.out.mono ?_
          rintro e w2 ⟨v2, rfl, ho2, hc2⟩
          have G : Hid (w2.ownsRow w.heap.size tU8 1 v2 b.length (bys b) ∧ DevN N w2 h D ∧ Chg h.foot w w2) := ⟨by rw [HB.out, ← SZ.out]; exact ho2, F.out.1.chgNo hc2, F.out.2.trans (hc2.mono (fun _ _ h => h.elim))⟩
          clear ho2 hc2
          go_wp2
          go_ret2
          exact ⟨_, rfl, G.out⟩
      · have hcv := hcell v hv
        cases hpg : D.page n with
        | blank =>
          rw [hpg] at hp
          obtain rfl : v = .pointer none := hp
          have F : Hid (w1.ownsRow w.heap.size tU8 1 (.slice none 0 0) 0 (bys []) ∧ DevN N w1 h D ∧ Chg h.foot w w1) := ⟨World.ownsRow_nil _ _ _ _, hd1, hc1⟩
          (have SZ := Lib.hid hsz; simp only [Pg.err, Pg.data]; clear hsz hpg hd hd1 hc1 hm hF hl hg hcell hkn; subst hw1; go_enter Try.func36, Try.ntmps36; go_wp2_with fail; refine hhas.out.mono ?_; rintro e w0 ⟨rfl, rfl⟩)
          go_wp2
          go_ret2
          exact ⟨_, rfl, F.out⟩
        | torn =>
          rw [hpg] at hp
          obtain ⟨p, hpN, rfl, hpb⟩ := hp
          have p1 := hpb.cell 1
          simp at p1
          have F : Hid (w1.ownsRow w.heap.size tU8 1 (.slice none 0 0) 0 (bys []) ∧ DevN N w1 h D ∧ Chg h.foot w w1) := ⟨World.ownsRow_nil _ _ _ _, hd1, hc1⟩
          clear hpb
          (have SZ := Lib.hid hsz; simp only [Pg.err, Pg.data]; clear hsz hpg hd hd1 hc1 hm hF hl hg hcell hkn; subst hw1; go_enter Try.func36, Try.ntmps36; go_wp2_with fail; refine hhas.out.mono ?_; rintro e w0 ⟨rfl, rfl⟩)
          go_wp2
          go_ret2
          exact ⟨_, rfl, F.out⟩
        | full b =>
          rw [hpg] at hp
          obtain ⟨p, q, hpN, hqN, rfl, hpb, hqb, hbl⟩ := hp
          have p0 := hpb.cell 0
          have p1 := hpb.cell 1
          simp at p0 p1
          have hcl := Lib.hid (cloneBytes_calls (some ⟨q, 0, none⟩) 384 384 b w1 (by have := Rd.ofBlk (k := 384) hqb (by simp [bys_length, hbl]); simpa [List.take_of_length_le, bys_length, hbl] using this) (by omega))
          have HB := Lib.hid hbl
          have F := Lib.hid (And.intro hd1 hc1)
          clear hpb hqb hbl
          (have SZ := Lib.hid hsz; simp only [Pg.err, Pg.data]; clear hsz hpg hd hd1 hc1 hm hF hl hg hcell hkn; subst hw1; go_enter Try.func36, Try.ntmps36; go_wp2_with fail; refine hhas.out.mono ?_; rintro e w0 ⟨rfl, rfl⟩)
          go_wp2_with fail
          refine hcl.out.mono ?_
          rintro e w2 ⟨v2, rfl, ho2, hc2⟩
          have G : Hid (w2.ownsRow w.heap.size tU8 1 v2 b.length (bys b) ∧ DevN N w2 h D ∧ Chg h.foot w w2) := ⟨by rw [HB.out, ← SZ.out]; exact ho2, F.out.1.chgNo hc2, F.out.2.trans (hc2.mono (fun _ _ h => h.elim))⟩
          clear ho2 hc2
          go_wp2
          go_ret2
          exact ⟨_, rfl, G.out⟩
  · have c1 : D.has k = false := by simpa using c0
    rw [show D.readE k = 1 from by simp [Dev.readE, c1], show D.read k = [] from by simp [Dev.read, c1]]
    rw [c1] at hhas
    have F : Hid (w.ownsRow w.heap.size tU8 1 (.slice none 0 0) 0 (bys []) ∧ DevN N w h D ∧ Chg h.foot w w) := ⟨World.ownsRow_nil _ _ _ _, hd, Chg.refl _ _⟩
    clear hd c0 c1
    go_enter Try.func36, Try.ntmps36
    go_wp2_with fail
    refine hhas.out.mono ?_
    rintro e w1 ⟨rfl, rfl⟩
    go_wp2
    go_ret2
    exact ⟨_, rfl, F.out⟩
end Go.Proofs.Ytcmobcbecbajiaa
