/- Packed texts: RegI, RegJ. -/
import Derived.Test.YtplpbbdakihnfaaGreatPq06
import Derived.Test.YtplpbbdakihnfaaGreatPq07
import Derived.Test.YtplpbbdakihnfaaGreatPq08
set_option linter.unusedSimpArgs false
set_option linter.unusedVariables false
section
namespace Go.Proofs.YtplpbbdakihnfaaGreat
open Go.RowKit
attribute [local go_sem ↓] Go.wp_at_zero Go.wp_at_succ
def pFrom (nb k : Nat) : Nat := if nb < k * 368 then nb else k * 368
theorem pFrom_le (nb k : Nat) : pFrom nb k ≤ nb := by unfold pFrom; split <;> omega
theorem pFrom_mono (nb k : Nat) : pFrom nb k ≤ pFrom nb (k + 1) := by unfold pFrom; split <;> split <;> omega
theorem pFrom_a {nb k : Nat} (h : nb < k * 368) : pFrom nb k = nb := if_pos h
theorem pFrom_b {nb k : Nat} (h : ¬ nb < k * 368) : pFrom nb k = k * 368 := if_neg h
theorem nlt368 {nb k : Nat} (h : nb < k * 368) : nb < (k + 1) * 368 := Nat.lt_of_lt_of_le h (Nat.mul_le_mul_right 368 (Nat.le_succ k))
theorem part_cut (b : List UInt8) (k : Nat) : (b.drop (pFrom b.length k)).take (pFrom b.length (k + 1) - pFrom b.length k) = rgPart b k := by
  unfold rgPart
  by_cases h1 : b.length < k * 368
  · have h3 : b.length ≤ k * 368 := Nat.le_of_lt h1
    have e1 : b.drop (k * 368) = [] := List.drop_eq_nil_of_le h3
    rw [e1, pFrom_a h1, List.drop_length, List.take_nil, List.take_nil]
  · rw [pFrom_b h1]
    by_cases h2 : b.length < (k + 1) * 368
    · rw [pFrom_a h2]
      have h3 : (b.drop (k * 368)).length ≤ 368 := by rw [List.length_drop]; omega
      rw [List.take_of_length_le h3, List.take_of_length_le (by rw [List.length_drop]; exact Nat.le_refl _)]
    · rw [pFrom_b h2]
      have h3 : (k + 1) * 368 - k * 368 = 368 := by omega
      rw [h3]
theorem part_len (b : List UInt8) (k : Nat) : (rgPart b k).length = pFrom b.length (k + 1) - pFrom b.length k := by
  have := pFrom_le b.length (k + 1)
  rw [← part_cut, List.length_take, List.length_drop]; omega
theorem part_le (b : List UInt8) (k : Nat) : (rgPart b k).length ≤ 368 := by unfold rgPart; rw [List.length_take]; omega
theorem rgPg_len (b : List UInt8) (n k : Nat) : (rgPg b n k).length = 16 + (rgPart b k).length := by simp [rgPg, rgHead, le_length]; omega
theorem layB_exact (l : List Item) (hg : goods l = true) (hs : isum l ≤ 65536) : layB l (isum l) = records l := by
  have he : layE l (isum l) = 0 := by
    unfold layE
    rw [if_pos hg, if_neg (by omega), if_neg (by rw [isum_records]; omega)]
  unfold layB
  rw [if_pos he, isum_records]
  simp
theorem rd_four (W : World) (k : Nat) : Rd (W.alloc (.cells #[.int .u8 k, .int .u8 0] tU8)) tU8 (some ⟨W.heap.size, 0, none⟩) (2 * 1) [.int .u8 k, .int .u8 0] := by
  have := Rd.ofBlk (k := 2) (Blk.new W tU8 #[.int .u8 k, .int .u8 0]) (by simp)
  simpa using this
theorem rd_four2 (W : World) (o : Obj) (k : Nat) : Rd ((W.alloc o).alloc (.cells #[.int .u8 k, .int .u8 0] tU8)) tU8 (some ⟨W.heap.size + 1, 0, none⟩) (2 * 1) [.int .u8 k, .int .u8 0] := by
  have := rd_four (W.alloc o) k
  rwa [World.size_alloc] at this
section
variable {N : Nat} {w : World} {h : DevH} {t : LgH} {G : Lg} {D : Dev}
set_option maxRecDepth 100000 in
set_option maxHeartbeats 8000000 in
theorem rwrite_calls (hd : DevN N w h D) (hl : LgAt w h t G) (i n : Nat) (hi : i < G.regs.length) (hn : n < 18446744073709551616) :
    Calls Tryz.prog 88 #[.pointer (some ⟨t.L, 0, none⟩), .int .i64 i, .int .u64 n] w
      fun e w' => e = .returned (.int .i64 (wr D ((G.first + 4 * i : Nat) : Int) n (records G.opn)).2) ∧ DevAt w' h (wr D ((G.first + 4 * i : Nat) : Int) n (records G.opn)).1 ∧ Chg h.foot w w' := by
  have HD := Lib.hid hd
  have HL := Lib.hid hl
  obtain ⟨Ao, co, hO, hnco, hrdo⟩ := hl.openAs
  have hsum := hl.ok.sum
  have hlen := hl.ok.len
  have hgood := hl.ok.good
  have hfit := hl.ok.fit
  have hLAY := fun W => Lib.hid (fun hc : Chg No w W => lay_calls Ao co G.opn (isum G.opn) W (hrdo.chg hc (fun _ _ _ _ h => h)) (by omega) (by omega))
  rw [layB_exact _ hgood (by omega)] at hLAY
  have d4 := hl.box.cell 4
  have d5 := hl.box.cell 5
  simp at d4 d5
  rw [hO] at d4
  have hll := hl.lt _ hl.ownL
  have hbl : (records G.opn).length ≤ 1472 := by rw [isum_records]; exact hsum
  obtain ⟨b, hb⟩ : ∃ b, b = records G.opn := ⟨_, rfl⟩
  rw [← hb] at hLAY hbl ⊢
  obtain ⟨no, hno⟩ : ∃ no, no = G.opn.length := ⟨_, rfl⟩
  obtain ⟨sz, hsz⟩ : ∃ sz, sz = isum G.opn := ⟨_, rfl⟩
  obtain ⟨le0, hle0⟩ : ∃ z, z = layE G.opn (isum G.opn) := ⟨_, rfl⟩
  rw [← hle0] at hLAY
  rw [← hno] at d4 hLAY hlen
  rw [← hsz] at d5 hLAY
  obtain ⟨first, hfirst⟩ : ∃ f, f = G.first := ⟨_, rfl⟩
  rw [← hfirst] at hfit ⊢
  obtain ⟨m, hm⟩ : ∃ m, m = G.regs.length := ⟨_, rfl⟩
  rw [← hm] at hfit hi
  have HFI : Hid (first = G.first) := hfirst
  clear hd hl hO hrdo hsum hgood hb hno hsz hle0 hfirst hm
  go_enter Tryz.func88, Tryz.ntmps88
  go_wp2_with fail
  go_region_held3 (fun w' => w'.cell? ⟨t.L, 4, none⟩ = some (.slice Ao no co) ∧ w'.cell? ⟨t.L, 5, none⟩ = some (.int .i64 sz)) (first | go_keep)
    ((go_at_call 73; refine ((hLAY _).out (by (repeat (first | (with_reducible exact Chg.refl _ _) | (with_reducible assumption) | (with_reducible refine Chg.drewN ?_ _) | (with_reducible refine Chg.drew ?_) | (with_reducible refine Chg.alloc ?_ _) | (with_reducible refine Chg.setCell ?_ (by first | (left; simp [DevH.foot]; done) | (right; simp; done) | (right; simp; omega)) _))))).mono ?_; rintro e w1 ⟨vb, rfl, ho1, hc1⟩; have HO1 := Lib.hid ho1; have HC1 : Hid (Chg No w w1) := (by (repeat (first | (with_reducible exact Chg.refl _ _) | (with_reducible assumption) | (with_reducible refine Chg.drewN ?_ _) | (with_reducible refine Chg.drew ?_) | (with_reducible refine Chg.alloc ?_ _) | (with_reducible refine Chg.setCell ?_ (by first | (left; simp [DevH.foot]; done) | (right; simp; done) | (right; simp; omega)) _))) : Chg No w _).trans hc1; have d4' := (HC1.out.toBelow.cell (p := ⟨t.L, 4, none⟩) hll).trans d4; have d5' := (HC1.out.toBelow.cell (p := ⟨t.L, 5, none⟩) hll).trans d5; clear ho1 hc1))
  all_goals
    obtain ⟨Ab, cb, rfl, hncb, hrb⟩ := own_slice HO1.out
    have HRB : Hid (Rd w1 tU8 Ab b.length (bys b)) := by show Rd _ _ _ _ _; simpa using hrb
    clear hrb
    obtain ⟨nb, hnb⟩ : ∃ nb, nb = b.length := ⟨_, rfl⟩
    rw [← hnb] at HRB hbl hncb ⊢
    have HNB := Lib.hid hnb
    clear hnb hLAY d4 d5
    go_wp2
    go_loopg [26] 4 (fun gk vi wr => ∃ (k : Nat) (Dk : Dev), gk = 4 - k ∧ k ≤ 4 ∧ vi = .int .i64 k ∧ Hid (DevAt wr h Dk ∧ LgAt wr h t G ∧ Rd wr tU8 Ab nb (bys b) ∧ Chg h.foot w wr ∧ Go.Proofs.YtplpbbdakihnfaaGreat.wr D ((first + 4 * i : Nat) : Int) n b = wrGo ((first + 4 * i : Nat) : Int) n b k (4 - k) Dk))
    case atStart => exact ⟨0, D, rfl, Nat.zero_le _, rfl, (HD.out.chgNo HC1.out).at_, HL.out.chgNo HC1.out, HRB.out, HC1.out.mono (fun _ _ h => h.elim), rfl⟩
    case round =>
      obtain ⟨k, Dk, rfl, hk, rfl, H⟩ := hrel
      by_cases hlt : k < 4
      · have hpl := part_len b k
        have hpc := part_cut b k
        have hple := part_le b k
        have hpgl := rgPg_len b n k
        rw [← HNB.out] at hpl hpc
        have hfm := pFrom_mono nb k
        have hfl := pFrom_le nb (k + 1)
        have hstep : Hid (Go.Proofs.YtplpbbdakihnfaaGreat.wr D ((first + 4 * i : Nat) : Int) n b = if Dk.writeE (((first + 4 * i : Nat) : Int) + k) (rgPg b n k).length = 0 then wrGo ((first + 4 * i : Nat) : Int) n b (k + 1) (4 - (k + 1)) (Dk.write (((first + 4 * i : Nat) : Int) + k) (rgPg b n k)) else (Dk.write (((first + 4 * i : Nat) : Int) + k) (rgPg b n k), Dk.writeE (((first + 4 * i : Nat) : Int) + k) (rgPg b n k).length)) := by
          show _ = _
          rw [H.out.2.2.2.2, show 4 - k = (4 - (k + 1)) + 1 by omega]
          rfl
        obtain ⟨ml, hml⟩ : ∃ ml, ml = (rgPart b k).length := ⟨_, rfl⟩
        rw [← hml] at hpl hple hpgl
        have HML := Lib.hid hml
        have d0 := H.out.2.1.box.cell 0
        have d2 := H.out.2.1.box.cell 2
        simp at d0 d2
        rw [← HFI.out] at d2
        have HPGL := Lib.hid hpgl
        have HPC := Lib.hid hpc
        clear hpc hpgl hml
        by_cases g1 : nb < k * 368
        · have r1 : (nb : Int) < (k : Int) * 368 := by omega
          have r2 : (nb : Int) < ((k : Int) + 1) * 368 := by omega
          have hsl : pFrom nb k = ((nb : Int)).toNat := by rw [pFrom_a g1]; omega
          have hsh : pFrom nb (k + 1) = ((nb : Int)).toNat := by rw [pFrom_a (nlt368 g1)]; omega
          obtain ⟨A5, hs5, hd5⟩ := sub_slice (P := Tryz.prog) Tryz.underlying40 ti_u8 Ab nb cb ((nb : Int)) ((nb : Int)) (by omega) (by omega) (by omega)
          have hs5' : ∀ W : World, (Instr.sliceAt tBytes (.slice Ab nb cb) (some (.int .i64 ((nb : Int)))) (some (.int .i64 ((nb : Int)))) none).run Tryz.prog W = _ := fun W => (run_sliceAt_slice W tBytes _ _ _ _ Tryz.underlying40).trans (hs5 W)
          have hdd := (by omega : (((nb : Int))).toNat - (((nb : Int))).toNat = ml)
          rw [hdd] at hs5 hs5'
          have HD5 : Hid (∀ W, Rd W tU8 Ab nb (bys b) → Rd W tU8 A5 ml (bys (rgPart b k))) := fun W hW => by
            have h5 := hd5 W tU8 (bys b) (by simpa using hW) (by omega)
            rw [hdd, ← hsl] at h5
            simp only [Nat.mul_one] at h5
            rw [← bys_drop, ← bys_take, hpl, HPC.out, ← hpl] at h5
            exact h5
          have hsub : IntKind.i64.wrap ((nb : Int) - (nb : Int)) = 0 := by rw [IntWalk.i64_in _ (by omega)]; omega
          have HM0 : Hid (ml = 0) := by show _ = _; omega
          clear hd5 hsl hsh
          have hfm' := hfm
          clear hpl hfm hfl
          go_wp2_with fail
          refine (gmagic_calls _).mono ?_
          rintro e w2 ⟨rfl, rfl⟩
          have ow0 := own_cells wr tU8 #[.int .u8 82, .int .u8 71] 2 rfl (by simp [maxLen])
          have HOW0 := Lib.hid ow0
          have hku : IntKind.u8.wrap (k : Int) = (k : Int) := wraps_u8 _ (by omega) (by omega)
          have hmu : IntKind.u64.wrap (ml : Int) = (ml : Int) := wraps_u64 _ (by omega) (by omega)
          clear ow0
          go_wp2_with (first
            | (at_builtin; go_loud (refine wpList_app _ rfl (.tmp 40) (.tmp 43) tBytes rfl tU8 Tryz.underlying40 ti_u8 rfl (by omega) wr.heap.size _ 2 _ rfl (HOW0.out.alloc _) tU8 _ 2 2 [.int .u8 (k : Int), .int .u8 0] rfl (rd_four2 _ _ k) (by simp [Value.oneCell']) (by simp [maxLen]) (by omega) (by simp; omega) ?_); intro v3 w3 ho3 hg3 hb3; have HO3 := Lib.hid ho3; have HC3 : Hid (Chg No wr w3) := Chg.grown (by (repeat (first | (with_reducible exact Chg.refl _ _) | (with_reducible assumption) | (with_reducible refine Chg.drewN ?_ _) | (with_reducible refine Chg.drew ?_) | (with_reducible refine Chg.alloc ?_ _) | (with_reducible refine Chg.setCell ?_ (by first | (left; simp [DevH.foot]; done) | (right; simp; done) | (right; simp; omega)) _)))) hg3 (fun j hj => .inr (own_new HOW0.out j hj)); clear ho3 hg3 hb3))
          have HB4 : Hid ([Value.int .u8 82, .int .u8 71] ++ [.int .u8 (k : Int), .int .u8 0] = bys [82, 71, UInt8.ofNat k, 0]) := by
            show _ = _
            have : ((UInt8.ofNat k).toNat : Int) = (k : Int) := by rw [UInt8.toNat_ofNat']; omega
            simp [bys]; omega
          have HO3' : Hid (w3.ownsRow wr.heap.size tU8 1 v3 4 (bys [82, 71, UInt8.ofNat k, 0])) := by rw [← HB4.out]; exact HO3.out
          have HA4 := Lib.hid (gadd_callsI v3 wr.heap.size 4 (bys [82, 71, UInt8.ofNat k, 0]) 0 4 w3 HO3'.out HC3.out.size (by omega) (by omega) (by omega) (by omega) (by omega))
          go_wp2_with fail
          refine HA4.out.mono ?_
          rintro e w4 ⟨v4, rfl, ho4, hc4⟩
          have HO4 : Hid (w4.ownsRow wr.heap.size tU8 1 v4 8 (bys ([82, 71, UInt8.ofNat k, 0] ++ le 4 ml))) := by rw [bys_append, HM0.out]; exact ho4
          have HC4 : Hid (Chg No wr w4) := HC3.out.then hc4 (fun j hj hS => by have : wr.heap.size ≤ j := hS; omega)
          clear ho4 hc4 HA4
          have HA8 := fun W => Lib.hid (fun hc : Chg No w4 W => gadd_callsI v4 wr.heap.size 8 (bys ([82, 71, UInt8.ofNat k, 0] ++ le 4 ml)) (n : Int) 8 W (own_chg HO4.out hc (fun _ _ h => h)) (by have h1 := HC4.out.size; have h2 := hc.size; omega) (by omega) (by omega) (by omega) (by omega) (by omega))
          go_wp2_with fail
          have h63 : 16 + ml ≤ maxLen := by simp only [maxLen]; omega
          have hby : (16 + ml) * 1 ≤ 140737488355328 := by omega
          go_region_held3 (fun w' => True) (trivial)
            ((first
              | (go_at_call 111
                 refine ((HA8 _).out (by (repeat (first | (with_reducible exact Chg.refl _ _) | (with_reducible assumption) | (with_reducible refine Chg.drewN ?_ _) | (with_reducible refine Chg.drew ?_) | (with_reducible refine Chg.alloc ?_ _) | (with_reducible refine Chg.setCell ?_ (by first | (left; simp [DevH.foot]; done) | (right; simp; done) | (right; simp; omega)) _))))).mono ?_
                 rintro e w5 ⟨v5, rfl, ho5, hc5⟩
                 have HC5 : Hid (Chg No wr w5) := (HC4.out.trans (by (repeat (first | (with_reducible exact Chg.refl _ _) | (with_reducible assumption) | (with_reducible refine Chg.drewN ?_ _) | (with_reducible refine Chg.drew ?_) | (with_reducible refine Chg.alloc ?_ _) | (with_reducible refine Chg.setCell ?_ (by first | (left; simp [DevH.foot]; done) | (right; simp; done) | (right; simp; omega)) _))))).then hc5 (fun j hj hS => by have : wr.heap.size ≤ j := hS; omega)
                 have HO5 : Hid (w5.ownsRow wr.heap.size tU8 1 v5 16 (bys (rgHead k n ml))) := by
                   have e16 : bys (rgHead k n ml) = bys ([82, 71, UInt8.ofNat k, 0] ++ le 4 ml) ++ bys (le 8 n) := by unfold rgHead; rw [← bys_append, List.append_assoc]
                   rw [e16]; exact ho5
                 clear ho5 hc5)
              | (have h5 := HD5.out w5 (H.out.2.2.1.chg HC5.out (fun _ _ _ _ h => h))
                 have h5' : Rd w5 tU8 A5 (ml * 1) (bys (rgPart b k)) := (Nat.mul_one ml).symm ▸ h5
                 refine step_app _ rfl (.tmp 52) (.tmp 56) tBytes rfl tU8 Tryz.underlying40 ti_u8 rfl Nat.one_pos wr.heap.size _ 16 _ rfl HO5.out tU8 A5 ml _ (bys (rgPart b k)) rfl h5' bys_one_cell h63 hby HC5.out.size ?_
                 intro v6 w6 ho6 hg6 hb6
                 have HC6 : Hid (Chg No wr w6) := Chg.grown HC5.out hg6 (fun j hj => .inr (own_new HO5.out j hj))
                 have HO6 : Hid (w6.ownsRow wr.heap.size tU8 1 v6 (16 + ml) (bys (rgPg b n k))) := by
                   unfold rgPg; rw [bys_append, ← HML.out]; exact ho6
                 clear ho6 hg6 hb6)))
          obtain ⟨A6, c6, rfl, hnc6, hr6⟩ := own_slice HO6.out
          have HR6 : Hid (Rd w6 tU8 A6 (16 + ml) (bys (rgPg b n k))) := by show Rd _ _ _ _ _; simpa using hr6
          have e0 := (HC6.out.toBelow.cell (p := ⟨t.L, 0, none⟩) (H.out.2.1.lt _ H.out.2.1.ownL)).trans d0
          have e2 := (HC6.out.toBelow.cell (p := ⟨t.L, 2, none⟩) (H.out.2.1.lt _ H.out.2.1.ownL)).trans d2
          have HLL : Hid (t.L < w6.heap.size) := by have h1 := H.out.2.1.lt _ H.out.2.1.ownL; have h2 := HC6.out.size; show _ < _; omega
          have hadd1 : IntKind.i64.wrap (4 * (i : Int)) = 4 * (i : Int) := IntWalk.i64_in _ (by omega)
          have hadd2 : IntKind.i64.wrap ((first : Int) + 4 * (i : Int)) = (first : Int) + 4 * (i : Int) := IntWalk.i64_in _ (by omega)
          have hadd3 : IntKind.i64.wrap ((first : Int) + 4 * (i : Int) + (k : Int)) = (first : Int) + 4 * (i : Int) + (k : Int) := IntWalk.i64_in _ (by omega)
          have HWR := fun W => Lib.hid (fun hc : Chg No w6 W => write_calls ((H.out.1.chgNo HC6.out).chgNo hc) ((first : Int) + 4 * (i : Int) + (k : Int)) A6 (16 + ml) c6 (rgPg b n k) (HR6.out.chg hc (fun _ _ _ _ h => h)) (by omega))
          have hbase : ((first + 4 * i : Nat) : Int) + (k : Int) = (first : Int) + 4 * (i : Int) + (k : Int) := by omega
          rw [hbase] at hstep
          obtain ⟨er, her⟩ : ∃ er, er = Dk.writeE ((first : Int) + 4 * (i : Int) + (k : Int)) (rgPg b n k).length := ⟨_, rfl⟩
          rw [← her] at hstep
          simp only [← her] at HWR
          clear her
          clear hr6 hbase d0 d2
          go_wp2_with fail
          go_region_held3 (fun w' => w'.cell? ⟨t.L, 0, none⟩ = some (.pointer (some ⟨h.d, 0, none⟩)) ∧ w'.cell? ⟨t.L, 2, none⟩ = some (.int .i64 (first : Int))) (first | go_keep)
            ((go_at_call 74
              refine ((HWR _).out (by (repeat (first | (with_reducible exact Chg.refl _ _) | (with_reducible assumption) | (with_reducible refine Chg.drewN ?_ _) | (with_reducible refine Chg.drew ?_) | (with_reducible refine Chg.alloc ?_ _) | (with_reducible refine Chg.setCell ?_ (by first | (left; simp [DevH.foot]; done) | (right; simp; done) | (right; simp; omega)) _))))).mono ?_
              rintro e w7 ⟨rfl, hd7, hc7⟩
              have HD7 := Lib.hid hd7
              have HC7 : Hid (Chg h.foot w6 w7) := (by (repeat (first | (with_reducible exact Chg.refl _ _) | (with_reducible assumption) | (with_reducible refine Chg.drewN ?_ _) | (with_reducible refine Chg.drew ?_) | (with_reducible refine Chg.alloc ?_ _) | (with_reducible refine Chg.setCell ?_ (by first | (left; simp [DevH.foot]; done) | (right; simp; done) | (right; simp; omega)) _))) : Chg No w6 _).mono (fun _ _ h => h.elim) |>.trans hc7
              have HL7 := Lib.hid ((H.out.2.1.chgNo HC6.out).foot (H.out.1.chgNo HC6.out) HC7.out)
              clear hd7 hc7
              have e07 := HL7.out.box.cell 0
              have e27 := HL7.out.box.cell 2
              simp at e07 e27
              rw [← HFI.out] at e27))
          have HR7 : Hid (Rd w7 tU8 Ab nb (bys b)) := (H.out.2.2.1.chg HC6.out (fun _ _ _ _ h => h)).chg HC7.out (fun g cur fz hg => (H.out.1.chgNo HC6.out).not_foot hg (by decide) (by decide))
          have HCW : Hid (Chg h.foot w w7) := (H.out.2.2.2.1.then HC6.out (fun _ _ h => h.elim)).trans HC7.out
          by_cases he : er = 0
          · subst he
            have HST : Hid (Go.Proofs.YtplpbbdakihnfaaGreat.wr D ((first + 4 * i : Nat) : Int) n b = wrGo ((first + 4 * i : Nat) : Int) n b (k + 1) (4 - (k + 1)) (Dk.write ((first : Int) + 4 * (i : Int) + (k : Int)) (rgPg b n k))) := by show _ = _; rw [hstep.out, if_pos rfl]
            clear hstep
            go_wp2
            go_roundg (4 - (k + 1))
            case measure => omega
            case rel => exact ⟨k + 1, _, rfl, by omega, by go_num, HD7.out, HL7.out, HR7.out, HCW.out, HST.out⟩
          · have HST : Hid (Go.Proofs.YtplpbbdakihnfaaGreat.wr D ((first + 4 * i : Nat) : Int) n b = (Dk.write ((first : Int) + 4 * (i : Int) + (k : Int)) (rgPg b n k), er)) := by show _ = _; rw [hstep.out, if_neg he]
            have hb0 : (er != 0) = true := by simpa using he
            clear hstep
            go_wp2
            go_ret
            exact ⟨by rw [HST.out]; rfl, by rw [HST.out]; exact HD7.out, HCW.out⟩
        · by_cases g2 : nb < (k + 1) * 368
          · have r1 : ¬ (nb : Int) < (k : Int) * 368 := by omega
            have r2 : (nb : Int) < ((k : Int) + 1) * 368 := by omega
            have hsl : pFrom nb k = (((k : Int) * 368)).toNat := by rw [pFrom_b g1]; omega
            have hsh : pFrom nb (k + 1) = ((nb : Int)).toNat := by rw [pFrom_a g2]; omega
            obtain ⟨A5, hs5, hd5⟩ := sub_slice (P := Tryz.prog) Tryz.underlying40 ti_u8 Ab nb cb (((k : Int) * 368)) ((nb : Int)) (by omega) (by omega) (by omega)
            have hs5' : ∀ W : World, (Instr.sliceAt tBytes (.slice Ab nb cb) (some (.int .i64 (((k : Int) * 368)))) (some (.int .i64 ((nb : Int)))) none).run Tryz.prog W = _ := fun W => (run_sliceAt_slice W tBytes _ _ _ _ Tryz.underlying40).trans (hs5 W)
            have hdd := (by omega : (((nb : Int))).toNat - ((((k : Int) * 368))).toNat = ml)
            rw [hdd] at hs5 hs5'
            have HD5 : Hid (∀ W, Rd W tU8 Ab nb (bys b) → Rd W tU8 A5 ml (bys (rgPart b k))) := fun W hW => by
              have h5 := hd5 W tU8 (bys b) (by simpa using hW) (by omega)
              rw [hdd, ← hsl] at h5
              simp only [Nat.mul_one] at h5
              rw [← bys_drop, ← bys_take, hpl, HPC.out, ← hpl] at h5
              exact h5
            have hsub : IntKind.i64.wrap ((nb : Int) - ((k : Int) * 368)) = (ml : Int) := by rw [IntWalk.i64_in _ (by omega)]; omega
            clear hd5 hsl hsh
            have hfm' := hfm
            clear hpl hfm hfl
            go_wp2_with fail
            refine (gmagic_calls _).mono ?_
            rintro e w2 ⟨rfl, rfl⟩
            have ow0 := own_cells wr tU8 #[.int .u8 82, .int .u8 71] 2 rfl (by simp [maxLen])
            have HOW0 := Lib.hid ow0
            have hku : IntKind.u8.wrap (k : Int) = (k : Int) := wraps_u8 _ (by omega) (by omega)
            have hmu : IntKind.u64.wrap (ml : Int) = (ml : Int) := wraps_u64 _ (by omega) (by omega)
            clear ow0
            go_wp2_with (first
              | (at_builtin; go_loud (refine wpList_app _ rfl (.tmp 40) (.tmp 43) tBytes rfl tU8 Tryz.underlying40 ti_u8 rfl (by omega) wr.heap.size _ 2 _ rfl (HOW0.out.alloc _) tU8 _ 2 2 [.int .u8 (k : Int), .int .u8 0] rfl (rd_four2 _ _ k) (by simp [Value.oneCell']) (by simp [maxLen]) (by omega) (by simp; omega) ?_); intro v3 w3 ho3 hg3 hb3; have HO3 := Lib.hid ho3; have HC3 : Hid (Chg No wr w3) := Chg.grown (by (repeat (first | (with_reducible exact Chg.refl _ _) | (with_reducible assumption) | (with_reducible refine Chg.drewN ?_ _) | (with_reducible refine Chg.drew ?_) | (with_reducible refine Chg.alloc ?_ _) | (with_reducible refine Chg.setCell ?_ (by first | (left; simp [DevH.foot]; done) | (right; simp; done) | (right; simp; omega)) _)))) hg3 (fun j hj => .inr (own_new HOW0.out j hj)); clear ho3 hg3 hb3))
            have HB4 : Hid ([Value.int .u8 82, .int .u8 71] ++ [.int .u8 (k : Int), .int .u8 0] = bys [82, 71, UInt8.ofNat k, 0]) := by
              show _ = _
              have : ((UInt8.ofNat k).toNat : Int) = (k : Int) := by rw [UInt8.toNat_ofNat']; omega
              simp [bys]; omega
            have HO3' : Hid (w3.ownsRow wr.heap.size tU8 1 v3 4 (bys [82, 71, UInt8.ofNat k, 0])) := by rw [← HB4.out]; exact HO3.out
            have HA4 := Lib.hid (gadd_callsI v3 wr.heap.size 4 (bys [82, 71, UInt8.ofNat k, 0]) (ml : Int) 4 w3 HO3'.out HC3.out.size (by omega) (by omega) (by omega) (by omega) (by omega))
            go_wp2_with fail
            refine HA4.out.mono ?_
            rintro e w4 ⟨v4, rfl, ho4, hc4⟩
            have HO4 : Hid (w4.ownsRow wr.heap.size tU8 1 v4 8 (bys ([82, 71, UInt8.ofNat k, 0] ++ le 4 ml))) := by rw [bys_append]; exact ho4
            have HC4 : Hid (Chg No wr w4) := HC3.out.then hc4 (fun j hj hS => by have : wr.heap.size ≤ j := hS; omega)
            clear ho4 hc4 HA4
            have HA8 := fun W => Lib.hid (fun hc : Chg No w4 W => gadd_callsI v4 wr.heap.size 8 (bys ([82, 71, UInt8.ofNat k, 0] ++ le 4 ml)) (n : Int) 8 W (own_chg HO4.out hc (fun _ _ h => h)) (by have h1 := HC4.out.size; have h2 := hc.size; omega) (by omega) (by omega) (by omega) (by omega) (by omega))
            go_wp2_with fail
            have h63 : 16 + ml ≤ maxLen := by simp only [maxLen]; omega
            have hby : (16 + ml) * 1 ≤ 140737488355328 := by omega
            go_region_held3 (fun w' => True) (trivial)
              ((first
                | (go_at_call 111
                   refine ((HA8 _).out (by (repeat (first | (with_reducible exact Chg.refl _ _) | (with_reducible assumption) | (with_reducible refine Chg.drewN ?_ _) | (with_reducible refine Chg.drew ?_) | (with_reducible refine Chg.alloc ?_ _) | (with_reducible refine Chg.setCell ?_ (by first | (left; simp [DevH.foot]; done) | (right; simp; done) | (right; simp; omega)) _))))).mono ?_
                   rintro e w5 ⟨v5, rfl, ho5, hc5⟩
                   have HC5 : Hid (Chg No wr w5) := (HC4.out.trans (by (repeat (first | (with_reducible exact Chg.refl _ _) | (with_reducible assumption) | (with_reducible refine Chg.drewN ?_ _) | (with_reducible refine Chg.drew ?_) | (with_reducible refine Chg.alloc ?_ _) | (with_reducible refine Chg.setCell ?_ (by first | (left; simp [DevH.foot]; done) | (right; simp; done) | (right; simp; omega)) _))))).then hc5 (fun j hj hS => by have : wr.heap.size ≤ j := hS; omega)
                   have HO5 : Hid (w5.ownsRow wr.heap.size tU8 1 v5 16 (bys (rgHead k n ml))) := by
                     have e16 : bys (rgHead k n ml) = bys ([82, 71, UInt8.ofNat k, 0] ++ le 4 ml) ++ bys (le 8 n) := by unfold rgHead; rw [← bys_append, List.append_assoc]
                     rw [e16]; exact ho5
                   clear ho5 hc5)
                | (have h5 := HD5.out w5 (H.out.2.2.1.chg HC5.out (fun _ _ _ _ h => h))
                   have h5' : Rd w5 tU8 A5 (ml * 1) (bys (rgPart b k)) := (Nat.mul_one ml).symm ▸ h5
                   refine step_app _ rfl (.tmp 52) (.tmp 56) tBytes rfl tU8 Tryz.underlying40 ti_u8 rfl Nat.one_pos wr.heap.size _ 16 _ rfl HO5.out tU8 A5 ml _ (bys (rgPart b k)) rfl h5' bys_one_cell h63 hby HC5.out.size ?_
                   intro v6 w6 ho6 hg6 hb6
                   have HC6 : Hid (Chg No wr w6) := Chg.grown HC5.out hg6 (fun j hj => .inr (own_new HO5.out j hj))
                   have HO6 : Hid (w6.ownsRow wr.heap.size tU8 1 v6 (16 + ml) (bys (rgPg b n k))) := by
                     unfold rgPg; rw [bys_append, ← HML.out]; exact ho6
                   clear ho6 hg6 hb6)))
            obtain ⟨A6, c6, rfl, hnc6, hr6⟩ := own_slice HO6.out
            have HR6 : Hid (Rd w6 tU8 A6 (16 + ml) (bys (rgPg b n k))) := by show Rd _ _ _ _ _; simpa using hr6
            have e0 := (HC6.out.toBelow.cell (p := ⟨t.L, 0, none⟩) (H.out.2.1.lt _ H.out.2.1.ownL)).trans d0
            have e2 := (HC6.out.toBelow.cell (p := ⟨t.L, 2, none⟩) (H.out.2.1.lt _ H.out.2.1.ownL)).trans d2
            have HLL : Hid (t.L < w6.heap.size) := by have h1 := H.out.2.1.lt _ H.out.2.1.ownL; have h2 := HC6.out.size; show _ < _; omega
            have hadd1 : IntKind.i64.wrap (4 * (i : Int)) = 4 * (i : Int) := IntWalk.i64_in _ (by omega)
            have hadd2 : IntKind.i64.wrap ((first : Int) + 4 * (i : Int)) = (first : Int) + 4 * (i : Int) := IntWalk.i64_in _ (by omega)
            have hadd3 : IntKind.i64.wrap ((first : Int) + 4 * (i : Int) + (k : Int)) = (first : Int) + 4 * (i : Int) + (k : Int) := IntWalk.i64_in _ (by omega)
            have HWR := fun W => Lib.hid (fun hc : Chg No w6 W => write_calls ((H.out.1.chgNo HC6.out).chgNo hc) ((first : Int) + 4 * (i : Int) + (k : Int)) A6 (16 + ml) c6 (rgPg b n k) (HR6.out.chg hc (fun _ _ _ _ h => h)) (by omega))
            have hbase : ((first + 4 * i : Nat) : Int) + (k : Int) = (first : Int) + 4 * (i : Int) + (k : Int) := by omega
            rw [hbase] at hstep
            obtain ⟨er, her⟩ : ∃ er, er = Dk.writeE ((first : Int) + 4 * (i : Int) + (k : Int)) (rgPg b n k).length := ⟨_, rfl⟩
            rw [← her] at hstep
            simp only [← her] at HWR
            clear her
            clear hr6 hbase d0 d2
            go_wp2_with fail
            go_region_held3 (fun w' => w'.cell? ⟨t.L, 0, none⟩ = some (.pointer (some ⟨h.d, 0, none⟩)) ∧ w'.cell? ⟨t.L, 2, none⟩ = some (.int .i64 (first : Int))) (first | go_keep)
              ((go_at_call 74
                refine ((HWR _).out (by (repeat (first | (with_reducible exact Chg.refl _ _) | (with_reducible assumption) | (with_reducible refine Chg.drewN ?_ _) | (with_reducible refine Chg.drew ?_) | (with_reducible refine Chg.alloc ?_ _) | (with_reducible refine Chg.setCell ?_ (by first | (left; simp [DevH.foot]; done) | (right; simp; done) | (right; simp; omega)) _))))).mono ?_
                rintro e w7 ⟨rfl, hd7, hc7⟩
                have HD7 := Lib.hid hd7
                have HC7 : Hid (Chg h.foot w6 w7) := (by (repeat (first | (with_reducible exact Chg.refl _ _) | (with_reducible assumption) | (with_reducible refine Chg.drewN ?_ _) | (with_reducible refine Chg.drew ?_) | (with_reducible refine Chg.alloc ?_ _) | (with_reducible refine Chg.setCell ?_ (by first | (left; simp [DevH.foot]; done) | (right; simp; done) | (right; simp; omega)) _))) : Chg No w6 _).mono (fun _ _ h => h.elim) |>.trans hc7
                have HL7 := Lib.hid ((H.out.2.1.chgNo HC6.out).foot (H.out.1.chgNo HC6.out) HC7.out)
                clear hd7 hc7
                have e07 := HL7.out.box.cell 0
                have e27 := HL7.out.box.cell 2
                simp at e07 e27
                rw [← HFI.out] at e27))
            have HR7 : Hid (Rd w7 tU8 Ab nb (bys b)) := (H.out.2.2.1.chg HC6.out (fun _ _ _ _ h => h)).chg HC7.out (fun g cur fz hg => (H.out.1.chgNo HC6.out).not_foot hg (by decide) (by decide))
            have HCW : Hid (Chg h.foot w w7) := (H.out.2.2.2.1.then HC6.out (fun _ _ h => h.elim)).trans HC7.out
            by_cases he : er = 0
            · subst he
              have HST : Hid (Go.Proofs.YtplpbbdakihnfaaGreat.wr D ((first + 4 * i : Nat) : Int) n b = wrGo ((first + 4 * i : Nat) : Int) n b (k + 1) (4 - (k + 1)) (Dk.write ((first : Int) + 4 * (i : Int) + (k : Int)) (rgPg b n k))) := by show _ = _; rw [hstep.out, if_pos rfl]
              clear hstep
              go_wp2
              go_roundg (4 - (k + 1))
              case measure => omega
              case rel => exact ⟨k + 1, _, rfl, by omega, by go_num, HD7.out, HL7.out, HR7.out, HCW.out, HST.out⟩
            · have HST : Hid (Go.Proofs.YtplpbbdakihnfaaGreat.wr D ((first + 4 * i : Nat) : Int) n b = (Dk.write ((first : Int) + 4 * (i : Int) + (k : Int)) (rgPg b n k), er)) := by show _ = _; rw [hstep.out, if_neg he]
              have hb0 : (er != 0) = true := by simpa using he
              clear hstep
              go_wp2
              go_ret
              exact ⟨by rw [HST.out]; rfl, by rw [HST.out]; exact HD7.out, HCW.out⟩
          · have r1 : ¬ (nb : Int) < (k : Int) * 368 := by omega
            have r2 : ¬ (nb : Int) < ((k : Int) + 1) * 368 := by omega
            have hsl : pFrom nb k = (((k : Int) * 368)).toNat := by rw [pFrom_b g1]; omega
            have hsh : pFrom nb (k + 1) = ((((k : Int) + 1) * 368)).toNat := by rw [pFrom_b g2]; omega
            obtain ⟨A5, hs5, hd5⟩ := sub_slice (P := Tryz.prog) Tryz.underlying40 ti_u8 Ab nb cb (((k : Int) * 368)) ((((k : Int) + 1) * 368)) (by omega) (by omega) (by omega)
            have hs5' : ∀ W : World, (Instr.sliceAt tBytes (.slice Ab nb cb) (some (.int .i64 (((k : Int) * 368)))) (some (.int .i64 ((((k : Int) + 1) * 368)))) none).run Tryz.prog W = _ := fun W => (run_sliceAt_slice W tBytes _ _ _ _ Tryz.underlying40).trans (hs5 W)
            have hdd := (by omega : (((((k : Int) + 1) * 368))).toNat - ((((k : Int) * 368))).toNat = ml)
            rw [hdd] at hs5 hs5'
            have HD5 : Hid (∀ W, Rd W tU8 Ab nb (bys b) → Rd W tU8 A5 ml (bys (rgPart b k))) := fun W hW => by
              have h5 := hd5 W tU8 (bys b) (by simpa using hW) (by omega)
              rw [hdd, ← hsl] at h5
              simp only [Nat.mul_one] at h5
              rw [← bys_drop, ← bys_take, hpl, HPC.out, ← hpl] at h5
              exact h5
            have hsub : IntKind.i64.wrap ((((k : Int) + 1) * 368) - ((k : Int) * 368)) = (ml : Int) := by rw [IntWalk.i64_in _ (by omega)]; omega
            clear hd5 hsl hsh
            have hfm' := hfm
            clear hpl hfm hfl
            go_wp2_with fail
            refine (gmagic_calls _).mono ?_
            rintro e w2 ⟨rfl, rfl⟩
            have ow0 := own_cells wr tU8 #[.int .u8 82, .int .u8 71] 2 rfl (by simp [maxLen])
            have HOW0 := Lib.hid ow0
            have hku : IntKind.u8.wrap (k : Int) = (k : Int) := wraps_u8 _ (by omega) (by omega)
            have hmu : IntKind.u64.wrap (ml : Int) = (ml : Int) := wraps_u64 _ (by omega) (by omega)
            clear ow0
            go_wp2_with (first
              | (at_builtin; go_loud (refine wpList_app _ rfl (.tmp 40) (.tmp 43) tBytes rfl tU8 Tryz.underlying40 ti_u8 rfl (by omega) wr.heap.size _ 2 _ rfl (HOW0.out.alloc _) tU8 _ 2 2 [.int .u8 (k : Int), .int .u8 0] rfl (rd_four2 _ _ k) (by simp [Value.oneCell']) (by simp [maxLen]) (by omega) (by simp; omega) ?_); intro v3 w3 ho3 hg3 hb3; have HO3 := Lib.hid ho3; have HC3 : Hid (Chg No wr w3) := Chg.grown (by (repeat (first | (with_reducible exact Chg.refl _ _) | (with_reducible assumption) | (with_reducible refine Chg.drewN ?_ _) | (with_reducible refine Chg.drew ?_) | (with_reducible refine Chg.alloc ?_ _) | (with_reducible refine Chg.setCell ?_ (by first | (left; simp [DevH.foot]; done) | (right; simp; done) | (right; simp; omega)) _)))) hg3 (fun j hj => .inr (own_new HOW0.out j hj)); clear ho3 hg3 hb3))
            have HB4 : Hid ([Value.int .u8 82, .int .u8 71] ++ [.int .u8 (k : Int), .int .u8 0] = bys [82, 71, UInt8.ofNat k, 0]) := by
              show _ = _
              have : ((UInt8.ofNat k).toNat : Int) = (k : Int) := by rw [UInt8.toNat_ofNat']; omega
              simp [bys]; omega
            have HO3' : Hid (w3.ownsRow wr.heap.size tU8 1 v3 4 (bys [82, 71, UInt8.ofNat k, 0])) := by rw [← HB4.out]; exact HO3.out
            have HA4 := Lib.hid (gadd_callsI v3 wr.heap.size 4 (bys [82, 71, UInt8.ofNat k, 0]) (ml : Int) 4 w3 HO3'.out HC3.out.size (by omega) (by omega) (by omega) (by omega) (by omega))
            go_wp2_with fail
            refine HA4.out.mono ?_
            rintro e w4 ⟨v4, rfl, ho4, hc4⟩
            have HO4 : Hid (w4.ownsRow wr.heap.size tU8 1 v4 8 (bys ([82, 71, UInt8.ofNat k, 0] ++ le 4 ml))) := by rw [bys_append]; exact ho4
            have HC4 : Hid (Chg No wr w4) := HC3.out.then hc4 (fun j hj hS => by have : wr.heap.size ≤ j := hS; omega)
            clear ho4 hc4 HA4
            have HA8 := fun W => Lib.hid (fun hc : Chg No w4 W => gadd_callsI v4 wr.heap.size 8 (bys ([82, 71, UInt8.ofNat k, 0] ++ le 4 ml)) (n : Int) 8 W (own_chg HO4.out hc (fun _ _ h => h)) (by have h1 := HC4.out.size; have h2 := hc.size; omega) (by omega) (by omega) (by omega) (by omega) (by omega))
            go_wp2_with fail
            have h63 : 16 + ml ≤ maxLen := by simp only [maxLen]; omega
            have hby : (16 + ml) * 1 ≤ 140737488355328 := by omega
            go_region_held3 (fun w' => True) (trivial)
              ((first
                | (go_at_call 111
                   refine ((HA8 _).out (by (repeat (first | (with_reducible exact Chg.refl _ _) | (with_reducible assumption) | (with_reducible refine Chg.drewN ?_ _) | (with_reducible refine Chg.drew ?_) | (with_reducible refine Chg.alloc ?_ _) | (with_reducible refine Chg.setCell ?_ (by first | (left; simp [DevH.foot]; done) | (right; simp; done) | (right; simp; omega)) _))))).mono ?_
                   rintro e w5 ⟨v5, rfl, ho5, hc5⟩
                   have HC5 : Hid (Chg No wr w5) := (HC4.out.trans (by (repeat (first | (with_reducible exact Chg.refl _ _) | (with_reducible assumption) | (with_reducible refine Chg.drewN ?_ _) | (with_reducible refine Chg.drew ?_) | (with_reducible refine Chg.alloc ?_ _) | (with_reducible refine Chg.setCell ?_ (by first | (left; simp [DevH.foot]; done) | (right; simp; done) | (right; simp; omega)) _))))).then hc5 (fun j hj hS => by have : wr.heap.size ≤ j := hS; omega)
                   have HO5 : Hid (w5.ownsRow wr.heap.size tU8 1 v5 16 (bys (rgHead k n ml))) := by
                     have e16 : bys (rgHead k n ml) = bys ([82, 71, UInt8.ofNat k, 0] ++ le 4 ml) ++ bys (le 8 n) := by unfold rgHead; rw [← bys_append, List.append_assoc]
                     rw [e16]; exact ho5
                   clear ho5 hc5)
                | (have h5 := HD5.out w5 (H.out.2.2.1.chg HC5.out (fun _ _ _ _ h => h))
                   have h5' : Rd w5 tU8 A5 (ml * 1) (bys (rgPart b k)) := (Nat.mul_one ml).symm ▸ h5
                   refine step_app _ rfl (.tmp 52) (.tmp 56) tBytes rfl tU8 Tryz.underlying40 ti_u8 rfl Nat.one_pos wr.heap.size _ 16 _ rfl HO5.out tU8 A5 ml _ (bys (rgPart b k)) rfl h5' bys_one_cell h63 hby HC5.out.size ?_
                   intro v6 w6 ho6 hg6 hb6
                   have HC6 : Hid (Chg No wr w6) := Chg.grown HC5.out hg6 (fun j hj => .inr (own_new HO5.out j hj))
                   have HO6 : Hid (w6.ownsRow wr.heap.size tU8 1 v6 (16 + ml) (bys (rgPg b n k))) := by
                     unfold rgPg; rw [bys_append, ← HML.out]; exact ho6
                   clear ho6 hg6 hb6)))
            obtain ⟨A6, c6, rfl, hnc6, hr6⟩ := own_slice HO6.out
            have HR6 : Hid (Rd w6 tU8 A6 (16 + ml) (bys (rgPg b n k))) := by show Rd _ _ _ _ _; simpa using hr6
            have e0 := (HC6.out.toBelow.cell (p := ⟨t.L, 0, none⟩) (H.out.2.1.lt _ H.out.2.1.ownL)).trans d0
            have e2 := (HC6.out.toBelow.cell (p := ⟨t.L, 2, none⟩) (H.out.2.1.lt _ H.out.2.1.ownL)).trans d2
            have HLL : Hid (t.L < w6.heap.size) := by have h1 := H.out.2.1.lt _ H.out.2.1.ownL; have h2 := HC6.out.size; show _ < _; omega
            have hadd1 : IntKind.i64.wrap (4 * (i : Int)) = 4 * (i : Int) := IntWalk.i64_in _ (by omega)
            have hadd2 : IntKind.i64.wrap ((first : Int) + 4 * (i : Int)) = (first : Int) + 4 * (i : Int) := IntWalk.i64_in _ (by omega)
            have hadd3 : IntKind.i64.wrap ((first : Int) + 4 * (i : Int) + (k : Int)) = (first : Int) + 4 * (i : Int) + (k : Int) := IntWalk.i64_in _ (by omega)
            have HWR := fun W => Lib.hid (fun hc : Chg No w6 W => write_calls ((H.out.1.chgNo HC6.out).chgNo hc) ((first : Int) + 4 * (i : Int) + (k : Int)) A6 (16 + ml) c6 (rgPg b n k) (HR6.out.chg hc (fun _ _ _ _ h => h)) (by omega))
            have hbase : ((first + 4 * i : Nat) : Int) + (k : Int) = (first : Int) + 4 * (i : Int) + (k : Int) := by omega
            rw [hbase] at hstep
            obtain ⟨er, her⟩ : ∃ er, er = Dk.writeE ((first : Int) + 4 * (i : Int) + (k : Int)) (rgPg b n k).length := ⟨_, rfl⟩
            rw [← her] at hstep
            simp only [← her] at HWR
            clear her
            clear hr6 hbase d0 d2
            go_wp2_with fail
            go_region_held3 (fun w' => w'.cell? ⟨t.L, 0, none⟩ = some (.pointer (some ⟨h.d, 0, none⟩)) ∧ w'.cell? ⟨t.L, 2, none⟩ = some (.int .i64 (first : Int))) (first | go_keep)
              ((go_at_call 74
                refine ((HWR _).out (by (repeat (first | (with_reducible exact Chg.refl _ _) | (with_reducible assumption) | (with_reducible refine Chg.drewN ?_ _) | (with_reducible refine Chg.drew ?_) | (with_reducible refine Chg.alloc ?_ _) | (with_reducible refine Chg.setCell ?_ (by first | (left; simp [DevH.foot]; done) | (right; simp; done) | (right; simp; omega)) _))))).mono ?_
                rintro e w7 ⟨rfl, hd7, hc7⟩
                have HD7 := Lib.hid hd7
                have HC7 : Hid (Chg h.foot w6 w7) := (by (repeat (first | (with_reducible exact Chg.refl _ _) | (with_reducible assumption) | (with_reducible refine Chg.drewN ?_ _) | (with_reducible refine Chg.drew ?_) | (with_reducible refine Chg.alloc ?_ _) | (with_reducible refine Chg.setCell ?_ (by first | (left; simp [DevH.foot]; done) | (right; simp; done) | (right; simp; omega)) _))) : Chg No w6 _).mono (fun _ _ h => h.elim) |>.trans hc7
                have HL7 := Lib.hid ((H.out.2.1.chgNo HC6.out).foot (H.out.1.chgNo HC6.out) HC7.out)
                clear hd7 hc7
                have e07 := HL7.out.box.cell 0
                have e27 := HL7.out.box.cell 2
                simp at e07 e27
                rw [← HFI.out] at e27))
            have HR7 : Hid (Rd w7 tU8 Ab nb (bys b)) := (H.out.2.2.1.chg HC6.out (fun _ _ _ _ h => h)).chg HC7.out (fun g cur fz hg => (H.out.1.chgNo HC6.out).not_foot hg (by decide) (by decide))
            have HCW : Hid (Chg h.foot w w7) := (H.out.2.2.2.1.then HC6.out (fun _ _ h => h.elim)).trans HC7.out
            by_cases he : er = 0
            · subst he
              have HST : Hid (Go.Proofs.YtplpbbdakihnfaaGreat.wr D ((first + 4 * i : Nat) : Int) n b = wrGo ((first + 4 * i : Nat) : Int) n b (k + 1) (4 - (k + 1)) (Dk.write ((first : Int) + 4 * (i : Int) + (k : Int)) (rgPg b n k))) := by show _ = _; rw [hstep.out, if_pos rfl]
              clear hstep
              go_wp2
              go_roundg (4 - (k + 1))
              case measure => omega
              case rel => exact ⟨k + 1, _, rfl, by omega, by go_num, HD7.out, HL7.out, HR7.out, HCW.out, HST.out⟩
            · have HST : Hid (Go.Proofs.YtplpbbdakihnfaaGreat.wr D ((first + 4 * i : Nat) : Int) n b = (Dk.write ((first : Int) + 4 * (i : Int) + (k : Int)) (rgPg b n k), er)) := by show _ = _; rw [hstep.out, if_neg he]
              have hb0 : (er != 0) = true := by simpa using he
              clear hstep
              go_wp2
              go_ret
              exact ⟨by rw [HST.out]; rfl, by rw [HST.out]; exact HD7.out, HCW.out⟩
      · obtain rfl : k = 4 := by omega
        have d0 := H.out.2.1.box.cell 0
        simp at d0
        have HF := Lib.hid (flush_calls H.out.1)
        have HE : Hid (Go.Proofs.YtplpbbdakihnfaaGreat.wr D ((first + 4 * i : Nat) : Int) n b = (Dk.flush, Dk.changeE)) := H.out.2.2.2.2
        clear hlt
        go_wp2_with fail
        refine HF.out.mono ?_
        rintro e w2 ⟨rfl, hd2, hc2⟩
        have HD2 := Lib.hid hd2
        have HC2 := Lib.hid hc2
        clear hd2 hc2
        go_wp2
        go_ret
        exact ⟨by rw [HE.out]; rfl, by rw [HE.out]; exact HD2.out, H.out.2.2.2.1.trans HC2.out⟩
end
end Go.Proofs.YtplpbbdakihnfaaGreat
end

section
namespace Go.Proofs.YtplpbbdakihnfaaGreat
open Go.RowKit
open Go.ChangeMaps (setBlock)
structure LgRaw (w : World) (h : DevH) (t : LgH) (G : Lg) : Prop where
  struc : ∃ cs, Blk w t.L tLog cs
  regs : ∃ ses : List (Nat × Value), ses.length = G.regs.length ∧ w.ownsRow 0 tSeal 2 t.R G.regs.length (secs ses) ∧ ∀ (i : Nat) (S : Sealed), G.regs[i]? = some S → ∃ v, ses[i]? = some (S.num, v) ∧ SlAt w t v S.l
  opn : w.ownsRow 0 tItem 5 t.O G.opn.length (its G.opn)
  map : MapIs skey w t.M (amap plv G.keys)
  ownL : t.own t.L
  ownM : t.own t.M
  ownR : ∀ k, t.R.ownBlock = some k → t.own k
  ownO : ∀ k, t.O.ownBlock = some k → t.own k
  lt : ∀ k, t.own k → k < w.heap.size
  far : t.M ≠ h.M
def boxOf (h : DevH) (t : LgH) (G : Lg) : Array Value := #[.pointer (some ⟨h.d, 0, none⟩), .int .i64 G.losses, .int .i64 G.first, t.R, t.O, .int .i64 (isum G.opn), .int .u64 G.number, .map (some t.M)]
section
variable {S : Nat → Prop} {w w' : World} {h : DevH} {t : LgH} {G : Lg}
theorem LgAt.raw (hl : LgAt w h t G) : LgRaw w h t G := ⟨⟨_, hl.box⟩, hl.regs, hl.opn, hl.map, hl.ownL, hl.ownM, hl.ownR, hl.ownO, hl.lt, hl.far⟩
theorem LgRaw.at_ (hl : LgRaw w h t G) (hb : Blk w t.L tLog (boxOf h t G)) (ok : G.Ok) : LgAt w h t G := ⟨hb, hl.regs, hl.opn, hl.map, hl.ownL, hl.ownM, hl.ownR, hl.ownO, hl.lt, hl.far, ok⟩
theorem LgRaw.chg (hl : LgRaw w h t G) (hc : Chg S w w') (hn : ∀ k, t.own k → ¬ S k) : LgRaw w' h t G :=
  { hl with
    struc := by obtain ⟨cs, hb⟩ := hl.struc; exact ⟨cs, hb.chg hc (hn _ hl.ownL)⟩
    regs := by
      obtain ⟨ses, h1, h2, h3⟩ := hl.regs
      refine ⟨ses, h1, own_chg h2 hc (fun k hk => hn k (hl.ownR k hk)), fun i S hS => ?_⟩
      obtain ⟨v, e, hv⟩ := h3 i S hS
      exact ⟨v, e, hv.chg hc (fun k hk _ => hn k hk)⟩
    opn := own_chg hl.opn hc (fun k hk => hn k (hl.ownO k hk))
    map := hl.map.chg hc (hn _ hl.ownM)
    lt := fun k hk => Nat.lt_of_lt_of_le (hl.lt k hk) hc.size }
theorem LgRaw.chgNo (hl : LgRaw w h t G) (hc : Chg No w w') : LgRaw w' h t G := hl.chg hc (fun _ _ h => h)
theorem LgRaw.one {g : Nat} (hl : LgRaw w h t G) (hc : Chg (fun k => k = g) w w') (hg : ∀ cs T fz, w.heap[g]? = some (.cells cs T fz) → T = tLog) (hs : ∃ cs, Blk w' t.L tLog cs) {ks : Keys} (hm : MapIs skey w' t.M (amap plv ks)) : LgRaw w' h t { G with keys := ks } := by
  have hrow : ∀ {k T cs fz}, w.heap[k]? = some (.cells cs T fz) → T ≠ tLog → ¬ k = g := fun hk hT e => hT (hg _ _ _ (by rw [← e]; exact hk))
  have hown : ∀ {v : Value} {base e size n : Nat} {xs : List Value}, e ≠ tLog → w.ownsRow base e size v n xs → w'.ownsRow base e size v n xs := by
    intro v base e size n xs he ho
    refine own_chg ho hc (fun k hk => ?_)
    rcases ho.2 with ⟨e1, _⟩ | ⟨g', cap, cur, e1, _, hg', _⟩
    · rw [e1] at hk; simp [Value.ownBlock] at hk
    · rw [e1] at hk
      have : g' = k := by simpa [Value.ownBlock] using hk
      subst this
      exact hrow hg' he
  exact { hl with
    struc := hs
    regs := by
      obtain ⟨ses, h1, h2, h3⟩ := hl.regs
      refine ⟨ses, h1, hown (by decide) h2, fun i S hS => ?_⟩
      obtain ⟨v, e, A, c, h4, h5, h6, h7⟩ := h3 i S hS
      exact ⟨v, e, A, c, h4, h5, h6.chg hc (fun g cur fz hg => hrow hg (by decide)), h7⟩
    opn := hown (by decide) hl.opn
    map := hm
    lt := fun k hk => Nat.lt_of_lt_of_le (hl.lt k hk) hc.size }
theorem LgRaw.boxed (hl : LgRaw w h t G) (hc : Chg (fun k => k = t.L) w w') (hs : ∃ cs, Blk w' t.L tLog cs) : LgRaw w' h t G := by
  obtain ⟨cs0, hb0⟩ := hl.struc
  exact hl.one (ks := G.keys) hc (fun cs T fz hg => by unfold Blk at hb0; rw [hg] at hb0; injection hb0 with hb0; injection hb0) hs (hl.map.chg hc (fun e => hl.map.ne_blk hb0 e))
theorem LgRaw.mapped (hl : LgRaw w h t G) (hc : Chg (fun k => k = t.M) w w') {ks : Keys} (hm : MapIs skey w' t.M (amap plv ks)) : LgRaw w' h t { G with keys := ks } := by
  obtain ⟨cs0, hb0⟩ := hl.struc
  exact hl.one hc (fun cs T fz hg => absurd rfl (hl.map.ne_blk hg)) ⟨cs0, hb0.chg hc (fun e => hl.map.ne_blk hb0 e.symm)⟩ hm
theorem LgRaw.nodup (hl : LgRaw w h t G) : (akeys G.keys).Nodup := by
  have := hl.map.nodup
  rwa [akeys_amap] at this
theorem look_map {ks : Keys} {M : Nat} (hm : MapIs skey w M (amap plv ks)) (key : ByteArray) : (Instr.lookup tKeys (.map (some M)) (.string key) false).run Tryz.prog w = .ok (plv ((aget ks key).getD .zero)) w := by
  have e := hm.lookup (keyLaw_string (Tryz.underlying9)) Tryz.underlying128 (zero_pl w) key false
  rw [e, aget_amap]
  cases aget ks key <;> rfl
end
theorem LgAt.sealedRaw {w : World} {h : DevH} {t : LgH} {G : Lg} (hl : LgAt w h t G) {g n c i : Nat} (hR : t.R = .slice (some ⟨g, 0, none⟩) n c) (hi : i < G.regs.length) (num : Nat) :
    LgRaw ((w.setCell ⟨g, i * 2, none⟩ (.int .u64 num)).setCell ⟨g, i * 2 + 1, none⟩ t.O) h { t with O := .slice none 0 0 } { G with regs := G.regs.set i ⟨num, G.opn⟩, opn := [] } ∧ Chg (fun k => k = g) w ((w.setCell ⟨g, i * 2, none⟩ (.int .u64 num)).setCell ⟨g, i * 2 + 1, none⟩ t.O) := by
  have hc : Chg (fun k => k = g) w ((w.setCell ⟨g, i * 2, none⟩ (.int .u64 num)).setCell ⟨g, i * 2 + 1, none⟩ t.O) := Chg.setCell (S := fun k => k = g) (Chg.setCell (S := fun k => k = g) (Chg.refl _ _) (.inl rfl) _) (.inl rfl) _
  obtain ⟨_, hn, _, cur0, hcur0⟩ := hl.rowAt hR
  have hrd : ∀ {A k xs}, Rd w tItem A k xs → Rd ((w.setCell ⟨g, i * 2, none⟩ (.int .u64 num)).setCell ⟨g, i * 2 + 1, none⟩ t.O) tItem A k xs := fun h6 => h6.chg hc (fun g cur fz hg => hl.rowNe hR hg (by decide))
  refine ⟨⟨⟨_, hl.box.chg hc (hl.rowNe hR hl.box (by decide))⟩, ?_, World.ownsRow_nil _ _ _ _, hl.map.chg hc (fun e => hl.map.ne_blk hcur0 e), hl.ownL, hl.ownM, hl.ownR, fun k hk => by simp [Value.ownBlock] at hk, fun k hk => Nat.lt_of_lt_of_le (hl.lt k hk) hc.size, hl.far⟩, hc⟩
  obtain ⟨ses, h1, h2, h3⟩ := hl.regs
  refine ⟨ses.set i (num, t.O), by simpa using h1, ?_, ?_⟩
  · rw [secs_set ses i _ (by omega)]
    show World.ownsRow _ 0 tSeal 2 t.R (G.regs.set i ⟨num, G.opn⟩).length _
    rw [List.length_set]
    have h2' := h2
    rw [hR] at h2'
    obtain rfl : n = G.regs.length := hn
    have := ((h2'.stored (i * 2) (.int .u64 num)).1.stored (i * 2 + 1) t.O).1
    rw [hR]
    exact this
  · intro j S hS
    simp only at hS
    rw [List.getElem?_set] at hS
    by_cases hij : i = j
    · rw [if_pos hij, if_pos hi] at hS
      injection hS with hS
      subst hS
      obtain ⟨A, c', hO, hnc, hr⟩ := hl.openAs
      refine ⟨t.O, by rw [List.getElem?_set, if_pos hij, if_pos (by omega)], A, c', hO, hnc, hrd hr, ?_⟩
      intro g' off h0 hA
      refine ⟨hl.ownO g' ?_, by simp [Value.ownBlock]⟩
      rw [hO, hA]
      obtain ⟨g2, o2, cur, fz, e2, _, _⟩ := hr.2 (by show 0 < G.opn.length * 5; simp only at h0; omega)
      have hoff : off = 0 := by
        rcases hl.opn.2 with ⟨e, _⟩ | ⟨g3, cap, cur3, e, _⟩
        · rw [hO, hA] at e; cases e
        · rw [hO, hA] at e
          injection e with e1
          simp only [Option.some.injEq, Addr.mk.injEq, and_true] at e1
          exact e1.2
      subst hoff
      rfl
    · rw [if_neg hij] at hS
      obtain ⟨v, e, A, c', h4, h5, h6, h7⟩ := h3 j S hS
      exact ⟨v, by rw [List.getElem?_set, if_neg hij]; exact e, A, c', h4, h5, hrd h6, fun g' off h0 hA => ⟨(h7 g' off h0 hA).1, by simp [Value.ownBlock]⟩⟩
theorem Lg.Ok.shut {G : Lg} (ho : G.Ok) (hn : (akeys G.keys).Nodup) (hnum : G.number + 1 < 18446744073709551616) : G.shut.Ok := by
  have hi : G.next < G.regs.length := Nat.mod_lt _ ho.pos
  have hg := ho.gave hn hi
  have hlen : G.shut.regs.length = G.regs.length := by simp [Lg.shut]
  have hreg : ∀ j, G.shut.regs[j]? = if G.next = j then some ⟨G.number + 1, G.opn⟩ else G.regs[j]? := by
    intro j
    unfold Lg.shut
    simp only
    rw [List.getElem?_set]
    by_cases hj : G.next = j
    · rw [if_pos hj, if_pos hj, if_pos (by simpa using hi)]
    · rw [if_neg hj, if_neg hj, List.getElem?_set, if_neg hj]
  have hv : ∀ key p, aget G.given.2 key = some p → p.op = true → p.rg = 0 ∧ ∃ x, G.opn[p.ix]? = some x ∧ x.key = key := by
    intro key p hp hop
    have := hg.keys key p hp
    unfold Lg.plOk at this
    rw [if_pos hop] at this
    exact this
  refine { pos := by rw [hlen]; exact ho.pos, most := by rw [hlen]; exact ho.most, fit := by rw [hlen]; exact ho.fit, num := hnum, small := ?_, good := rfl, sum := by simp [Lg.shut, isum], keys := ?_ }
  · intro S hS
    rcases List.mem_or_eq_of_mem_set hS with hS | rfl
    · exact hg.small S hS
    · exact ⟨by have := ho.len; show G.opn.length ≤ 1000; omega, hnum⟩
  · intro key p hp
    have hp' : aget (moveK G.next G.given.2 G.opn) key = some p := hp
    rw [← moveT_all, moveT_get _ _ _ hv _ (Nat.le_refl _)] at hp'
    cases h0 : aget G.given.2 key with
    | none => rw [h0] at hp'; cases hp'
    | some q =>
      rw [h0] at hp'
      simp only [Option.map_some, Option.some.injEq] at hp'
      unfold Lg.plOk
      by_cases hop : q.op = true
      · obtain ⟨hr0, x, hx, hk⟩ := hv key q h0 hop
        have hlt := (List.getElem?_eq_some_iff.1 hx).1
        unfold moved at hp'
        rw [if_pos ⟨hop, hlt⟩] at hp'
        subst hp'
        simp only [Bool.false_eq_true, if_false]
        exact ⟨_, x, by rw [hreg, if_pos rfl], hx, hk⟩
      · unfold moved at hp'
        rw [if_neg (fun hh => hop hh.1)] at hp'
        subst hp'
        have := hg.keys key q h0
        unfold Lg.plOk at this
        rw [if_neg hop] at this ⊢
        obtain ⟨S, x, hS, hx, hk⟩ := this
        simp only at hS
        rw [List.getElem?_set] at hS
        by_cases hj : G.next = q.rg
        · rw [if_pos hj, if_pos hi] at hS
          injection hS with hS
          subst hS
          simp [Sealed.no] at hx
        · rw [if_neg hj] at hS
          exact ⟨S, x, by rw [hreg, if_neg hj]; exact hS, hx, hk⟩
end Go.Proofs.YtplpbbdakihnfaaGreat
end
