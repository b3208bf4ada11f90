/- slices.Clone of bytes; the flash device's New, change, Write, Erase, Read. -/
import Derived.Test.YtcmobcbecbajiaaFlashA
import Derived.Test.YtcmobcbecbajiaaAppend
namespace Go.Proofs.Ytcmobcbecbajiaa
open Go.RowKit
open Go.ChangeMaps (setBlock)
set_option linter.unusedSimpArgs false
set_option linter.unusedVariables false

abbrev tBytes : TypeId := 31
theorem ti_u8 : TI Try.prog tU8 (.int .u8 0) 1 1 := (by kernel_rfl : (Try.prog.info? tU8).map (fun i => (i.zero, i.size, i.bytes)) = some (some (.int .u8 0), 1, 1))
theorem bys_one {b : List UInt8} : ∀ u ∈ bys b, u.oneCell' = true := by
  intro u hu
  simp only [bys, List.mem_map] at hu
  obtain ⟨x, _, rfl⟩ := hu
  rfl

theorem Rd.none_zero {w : World} {t : TypeId} {k : Nat} {xs : List Value} (h : Rd w t none k xs) : k = 0 ∧ xs = [] := by
  rcases Nat.eq_zero_or_pos k with h0 | h0
  · exact ⟨h0, List.eq_nil_of_length_eq_zero (by rw [h.1, h0])⟩
  · obtain ⟨g, off, cur, fz, h, _⟩ := h.2 h0
    cases h

theorem cloneBytes_calls (A : Option Addr) (n c : Nat) (b : List UInt8) (w : World) (hr : Rd w tU8 A n (bys b)) (hn : n ≤ 140737488351232) :
    Calls Try.prog 76 #[.slice A n c] w fun e w' => ∃ v, e = .returned v ∧ w'.ownsRow w.heap.size tU8 1 v n (bys b) ∧ Chg No w w' := by
  rcases A with _ | ad
  · obtain ⟨rfl, hb⟩ := hr.none_zero
    rw [hb]
    have hq := Lib.run_eql_slice_nil (P := Try.prog) w tBytes tU8 none 0 c 0 0 Try.underlying31
    have ho := World.ownsRow_nil w w.heap.size tU8 1
    have HO := Lib.hid ho
    clear ho hr hb
    go_enter Try.func76, Try.ntmps76
    go_wp2
    go_ret
    exact ⟨_, rfl, HO.out, Chg.refl _ _⟩
  · have hq := Lib.run_eql_slice_nil (P := Try.prog) w tBytes tU8 (some ad) n c 0 0 Try.underlying31
    have HR := Lib.hid (hr.alloc (.cells #[] tU8))
    have HO := Lib.hid (own_empty w tU8 1)
    clear hr
    go_enter Try.func76, Try.ntmps76
    go_wp2_with (first
      | (at_builtin; refine wpList_app _ rfl _ _ tBytes rfl tU8 Try.underlying31 ti_u8 rfl (by omega) w.heap.size _ 0 [] rfl HO.out tU8 _ n c (bys b) rfl (by simpa using HR.out) bys_one (by simp only [maxLen]; omega) (by omega) (by simp) ?_; intro v1 w1 ho1 hg1 hb1; have HO1 := Lib.hid ho1; have HG1 := Lib.hid hg1; clear ho1 hg1 hb1))
    go_ret
    refine ⟨v1, rfl, by simpa using HO1.out, ?_⟩
    have hc : Chg No w (w.alloc (.cells #[] tU8)) := by (repeat (first | (with_reducible exact Chg.refl _ _) | (with_reducible assumption) | (with_reducible refine Chg.drewN ?_ _) | (with_reducible refine Chg.drew ?_) | (with_reducible refine Chg.alloc ?_ _) | (with_reducible refine Chg.setCell ?_ (by first | (left; simp [DevH.foot]; done) | (right; simp; done) | (right; simp; omega)) _)))
    exact hc.grown HG1.out (by intro k hk; injection hk with hk; exact .inr (Nat.le_of_eq hk))

/-- where the device's three blocks differ -/
theorem DevN.apart {N : Nat} {w : World} {h : DevH} {D : Dev} (hd : DevN N w h D) : h.F ≠ h.d ∧ h.M ≠ h.d ∧ h.M ≠ h.F := by
  obtain ⟨a, b, c, e, hb⟩ := hd.box
  obtain ⟨ps, g, _⟩ := hd.row
  obtain ⟨es, m, _⟩ := hd.map
  exact ⟨g.ne_ hb (by decide), m.ne_blk hb, m.ne_blk g⟩

theorem WaitAt.put {N : Nat} {w : World} {es : List (Int × Value)} {n : Nat} {wt : Nat → Option Pg} (hw : WaitAt N w es n wt) (hnd : (akeys es).Nodup) {k : Nat} (hk : k < n) {v : Value} {p : Pg} (hv : PgAt N w v p) :
    WaitAt N w (aset es (k : Int) v) n (fun i => if i = k then some p else wt i) := by
  constructor
  · intro k' v' hm
    have hg := aget_of_mem (nodup_aset es (k : Int) v hnd) hm
    rw [aget_aset] at hg
    by_cases e : (k : Int) = k'
    · rw [if_pos e] at hg
      injection hg with hg
      subst hg; subst e
      exact ⟨k, p, rfl, hk, by simp, hv⟩
    · rw [if_neg e] at hg
      obtain ⟨i, pg, e1, e2, e3, e4⟩ := hw.1 k' v' (aget_mem hg)
      refine ⟨i, pg, e1, e2, ?_, e4⟩
      have : i ≠ k := fun h => e (by rw [e1, h])
      simp [this, e3]
  · intro i pg hi
    rw [aget_aset]
    by_cases e : k = i
    · exact ⟨v, by simp [e]⟩
    · rw [if_neg (by omega)]
      have : i ≠ k := fun h => e h.symm
      simp only [this, if_false] at hi
      exact hw.2 i pg hi

theorem WaitAt.chg {N N' : Nat} {w w' : World} {es : List (Int × Value)} {n : Nat} {wt : Nat → Option Pg} (hw : WaitAt N w es n wt) (hp : ∀ v p, PgAt N w v p → PgAt N' w' v p) : WaitAt N' w' es n wt :=
  ⟨fun k v hk => by
    obtain ⟨i, pg, e1, e2, e3, e4⟩ := hw.1 k v hk
    exact ⟨i, pg, e1, e2, e3, hp _ _ e4⟩, hw.2⟩

theorem spend_n (D : Dev) : D.spend.n = D.n := by
  unfold Dev.spend
  split
  · rfl
  · split
    · rfl
    · split <;> rfl

theorem change_calls {N : Nat} {w : World} {h : DevH} {D : Dev} (hd : DevN N w h D) (k : Nat) (hk : k < D.n) (v : Value) (p : Pg) (hp : PgAt w.heap.size w v p) :
    Calls Try.prog 77 #[.pointer (some ⟨h.d, 0, none⟩), .int .i64 k, v] w fun e w' => e = .returned (.int .i64 D.changeE) ∧ DevAt w' h (D.change k p) ∧ Chg h.foot w w' := by
  have hspend := Lib.hid (spend_calls hd)
  by_cases c0 : D.spent = true
  · rw [show D.changeE = 0 from by simp [Dev.changeE, c0], show D.change k p = D.spend.put k p from by simp [Dev.change, c0]]
    rw [c0] at hspend
    go_enter Try.func77, Try.ntmps77
    go_wp2_with fail
    refine hspend.out.mono ?_
    rintro e w1 ⟨rfl, hd1, hc1⟩
    obtain ⟨a, b, c, e, hb⟩ := hd1.box
    have hc0 := hb.cell 1
    simp at hc0
    obtain ⟨nF, nM, nMF⟩ := hd1.apart
    obtain ⟨es, hm, hw⟩ := hd1.map
    obtain ⟨o, hrun, hm'⟩ := hm.update (keyLaw_int (Try.underlying3)) Try.underlying77 (k : Int) v
    obtain ⟨w2, hw2⟩ : ∃ w2, w2 = setBlock w1 h.M o := ⟨_, rfl⟩
    have hc2 : Chg h.foot w1 w2 := by rw [hw2]; exact (Chg.refl _ _).setBlock (.inl (by simp [DevH.foot])) _
    have hc2' : Chg (fun i => i = h.M) w1 w2 := by rw [hw2]; exact chg_setBlock _ _ _
    rw [← hw2] at hrun hm'
    clear hw2
    have hb2 := hb.chg hc2' (fun e => nM e.symm)
    have h5 := hb2.cell 5
    simp at h5
    have f5 := hb2.frozen 5
    have fin : DevAt (w2.setCell ⟨h.d, 5, none⟩ (.int .i64 (wrap64 (a + 1)))) h (D.spend.put k p) ∧ Chg h.foot w (w2.setCell ⟨h.d, 5, none⟩ (.int .i64 (wrap64 (a + 1)))) := by
      have hc3 : Chg h.foot w1 (w2.setCell ⟨h.d, 5, none⟩ (.int .i64 (wrap64 (a + 1)))) := hc2.setCell (.inl (by simp [DevH.foot])) _
      have hc4 : Chg (fun i => i = h.d) w2 (w2.setCell ⟨h.d, 5, none⟩ (.int .i64 (wrap64 (a + 1)))) := chg_setCell w2 ⟨h.d, 5, none⟩ _
      refine ⟨hd1.step hc3 rfl ⟨wrap64 (a + 1), b, c, e, ?_⟩ (.inr ⟨rfl, ?_⟩) (.inl ⟨aset es (k : Int) v, hm'.chg hc4 nM, ?_⟩) hd1.armed, hc1.trans hc3⟩
      · have := hb2.set_ 5 (.int .i64 (wrap64 (a + 1)))
        simpa [Dev.put] using this
      · rw [Below.heap_setCell _ _ _ _ nF]
        exact hc2'.block _ (by obtain ⟨ps, g, _⟩ := hd1.row; exact g.lt) (fun e => nMF e.symm)
      · have hk' : k < D.spend.n := by rw [spend_n]; exact hk
        have hp' : PgAt w1.heap.size w1 v p := by
          refine (hp.chg hc1 ?_).mono hc1.size
          intro g cs t _ ht hb
          refine hd.not_foot hb ?_ ?_ <;> rcases ht with rfl | rfl <;> decide
        refine (hw.put hm.nodup hk' hp').chg (fun v p h => (h.chg hc3 ?_).mono hc3.size) 
        intro g cs t _ ht hb
        refine hd1.not_foot hb ?_ ?_ <;> rcases ht with rfl | rfl <;> decide
    have F := Lib.hid fin
    clear fin hc2 hc2' hb2 hb hm hm' hw hd1 hc1 nF nM nMF hspend hd hp
    go_wp2
    go_ret
    exact ⟨rfl, F.out⟩
  · have c1 : D.spent = false := by simpa using c0
    rw [show D.changeE = 4 from by simp [Dev.changeE, c1], show D.change k p = D.spend from by simp [Dev.change, c1]]
    rw [c1] at hspend
    clear hp c0 c1
    go_enter Try.func77, Try.ntmps77
    go_wp2_with fail
    refine hspend.out.mono ?_
    rintro e w1 ⟨rfl, hd1, hc1⟩
    have F := Lib.hid (And.intro hd1 hc1)
    clear hd1 hc1 hspend hd
    go_wp2
    go_ret
    exact ⟨rfl, F.out⟩

theorem erase_calls {N : Nat} {w : World} {h : DevH} {D : Dev} (hd : DevN N w h D) (k : Int) :
    Calls Try.prog 41 #[.pointer (some ⟨h.d, 0, none⟩), .int .i64 k] w fun e w' => e = .returned (.int .i64 (D.eraseE k)) ∧ DevAt w' h (D.erase k) ∧ Chg h.foot w w' := by
  have hhas := Lib.hid (has_calls hd k)
  by_cases c0 : D.has k = true
  · rw [show D.eraseE k = D.changeE from by simp [Dev.eraseE, c0], show D.erase k = D.change k.toNat .blank from by simp [Dev.erase, c0]]
    rw [c0] at hhas
    have hk : 0 ≤ k ∧ k < D.n := by simpa [Dev.has] using c0
    obtain ⟨n, rfl⟩ := Int.eq_ofNat_of_zero_le hk.1
    have hch := Lib.hid (change_calls hd n (by omega) (.pointer none) .blank rfl)
    clear c0 hk hd
    go_enter Try.func41, Try.ntmps41
    go_wp2_with fail
    refine hhas.out.mono ?_
    rintro e w1 ⟨rfl, rfl⟩
    go_wp2_with fail
    refine hch.out.mono ?_
    rintro e w1 ⟨rfl, hd1, hc1⟩
    have F := Lib.hid (And.intro hd1 hc1)
    clear hd1 hc1 hhas hch
    go_wp2
    go_ret
    exact ⟨rfl, F.out⟩
  · have c1 : D.has k = false := by simpa using c0
    rw [show D.eraseE k = 1 from by simp [Dev.eraseE, c1], show D.erase k = D from by simp [Dev.erase, c1]]
    rw [c1] at hhas
    have HD := Lib.hid hd.at_
    clear c0 c1 hd
    go_enter Try.func41, Try.ntmps41
    go_wp2_with fail
    refine hhas.out.mono ?_
    rintro e w1 ⟨rfl, rfl⟩
    go_wp2
    go_ret
    exact ⟨rfl, HD.out, Chg.refl _ _⟩

theorem ti_pp : TI Try.prog tPP (.pointer none) 1 8 := (by kernel_rfl : (Try.prog.info? tPP).map (fun i => (i.zero, i.size, i.bytes)) = some (some (.pointer none), 1, 8))

theorem pad_splice (b : List UInt8) (h : b.length ≤ 384) : splice (mk 384 (.int .u8 0)).toList 0 ((bys b).take 384) = bys (Dev.pad b) := by
  have hl : (bys b).take 384 = bys b := List.take_of_length_le (by rw [bys_length]; exact h)
  rw [hl]
  simp only [splice, mk_toList, List.take_zero, List.nil_append, Nat.zero_add, bys_length, List.drop_replicate, Dev.pad, bys_append]
  congr 1
  simp [bys]
theorem pad_length (b : List UInt8) (h : b.length ≤ 384) : (Dev.pad b).length = 384 := by simp [Dev.pad]; omega

theorem write_calls {N : Nat} {w : World} {h : DevH} {D : Dev} (hd : DevN N w h D) (k : Int) (A : Option Addr) (n c : Nat) (b : List UInt8) (hr : Rd w tU8 A n (bys b)) (hn : n ≤ 140737488351232) :
    Calls Try.prog 37 #[.pointer (some ⟨h.d, 0, none⟩), .int .i64 k, .slice A n c] w fun e w' => e = .returned (.int .i64 (D.writeE k b.length)) ∧ DevAt w' h (D.write k b) ∧ Chg h.foot w w' := by
  have hhas := Lib.hid (has_calls hd k)
  have hbl : b.length = n := by rw [← bys_length]; exact hr.1
  by_cases c0 : D.has k = true
  · rw [c0] at hhas
    by_cases c1 : n ≤ 384
    · rw [show D.writeE k b.length = D.changeE from by simp [Dev.writeE, c0, hbl, c1], show D.write k b = D.change k.toNat (.full (Dev.pad b)) from by simp [Dev.write, c0, hbl, c1]]
      have hk : 0 ≤ k ∧ k < D.n := by simpa [Dev.has] using c0
      obtain ⟨m, rfl⟩ := Int.eq_ofNat_of_zero_le hk.1
      rw [Int.toNat_natCast]
      have hkm : m < D.n := by omega
      have hmk : ∀ W : World, (Instr.makeSlice tBytes (.int .i64 384) (.int .i64 384)).run Try.prog W = .ok (.slice (some ⟨W.heap.size, 0, none⟩) 384 384) (W.alloc (.cells (mk 384 (.int .u8 0)) tU8)) := fun W => run_mk W Try.underlying31 ti_u8 rfl 384 (by omega) (by omega)
      have HR := Lib.hid (hr.alloc (.cells (mk 384 (.int .u8 0)) tU8))
      have HB := Lib.hid (Blk.new w tU8 (mk 384 (.int .u8 0)))
      have HL := Lib.hid hbl
      have HD := Lib.hid hd
      clear c0 hk hr hbl hd
      go_enter Try.func37, Try.ntmps37
      go_wp2_with fail
      refine hhas.out.mono ?_
      rintro e w1 ⟨rfl, rfl⟩
      go_wp2_with (with_reducible refine wpList_cp _ rfl (.tmp 18) (.tmp 19) _ _ rfl tU8 Try.underlying31 ti_u8 w.heap.size 0 384 384 A n c rfl rfl tU8 _ HB.out tU8 (bys b) HR.out (by rw [mk_size]; omega) bys_one ?_)
      intro w2 hb2 hc2
      have hb2' : Blk w2 w.heap.size tU8 (bys (Dev.pad b)).toArray := by
        rw [← pad_splice b (by rw [HL.out]; exact c1)]
        exact hb2
      have HB2 := Lib.hid hb2'
      have HC2 : Hid (Chg No w w2) := (Chg.alloc (Chg.refl No w) _).then hc2 (by intro i hi he; subst he; omega)
      have hs2 : w.heap.size < w2.heap.size := hb2'.lt
      clear hb2 hb2' hc2
      go_wp2_with fail
      have hc3 : Chg No w (w2.alloc (.cells #[.slice (some ⟨w.heap.size, 0, none⟩) 384 384, .bool false] tPage)) := HC2.out.alloc _
      refine (change_calls (HD.out.chgNo hc3) m hkm (.pointer (some ⟨w2.heap.size, 0, none⟩)) (.full (Dev.pad b)) ⟨w2.heap.size, w.heap.size, by simp, by simp; omega, rfl, Blk.new _ _ _, HB2.out.alloc _, pad_length b (by rw [HL.out]; exact c1)⟩).mono ?_
      rintro e w4 ⟨rfl, hd4, hc4⟩
      have F : Hid (DevAt w4 h (D.change m (.full (Dev.pad b))) ∧ Chg h.foot w w4) := ⟨hd4, (hc3.mono (fun _ _ h => h.elim)).trans hc4⟩
      clear hd4 hc4 hc3
      go_wp2
      go_ret
      exact ⟨rfl, F.out⟩
    · rw [show D.writeE k b.length = 1 from by simp [Dev.writeE, hbl, c1], show D.write k b = D from by simp [Dev.write, hbl, c1]]
      have HD := Lib.hid hd.at_
      clear c0 hd hr hbl
      go_enter Try.func37, Try.ntmps37
      go_wp2_with fail
      refine hhas.out.mono ?_
      rintro e w1 ⟨rfl, rfl⟩
      go_wp2
      go_ret
      exact ⟨rfl, HD.out, Chg.refl _ _⟩
  · have c1 : D.has k = false := by simpa using c0
    rw [show D.writeE k b.length = 1 from by simp [Dev.writeE, c1], show D.write k b = D from by simp [Dev.write, c1]]
    rw [c1] at hhas
    have HD := Lib.hid hd.at_
    clear c0 c1 hd hr hbl
    go_enter Try.func37, Try.ntmps37
    go_wp2_with fail
    refine hhas.out.mono ?_
    rintro e w1 ⟨rfl, rfl⟩
    go_wp2
    go_ret
    exact ⟨rfl, HD.out, Chg.refl _ _⟩
end Go.Proofs.Ytcmobcbecbajiaa
