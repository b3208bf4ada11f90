/- Packed texts: RegM, TombE. -/
import Derived.Test.YtplpbbdakihnfaaGreatPq10
import Derived.Test.YtplpbbdakihnfaaGreatPq11
import Derived.Test.YtplpbbdakihnfaaGreatPq14
import Derived.Test.YtplpbbdakihnfaaGreatPq08
set_option linter.unusedSimpArgs false
set_option linter.unusedVariables false
section
namespace Go.Proofs.YtplpbbdakihnfaaGreat
open Go.RowKit
open Go.ChangeMaps (setBlock)
attribute [local go_sem ↓] Go.wp_at_zero Go.wp_at_succ
theorem ti_u64 : TI Tryz.prog tU64 (.int .u64 0) 1 8 := (by kernel_rfl : (Tryz.prog.info? tU64).map (fun i => (i.zero, i.size, i.bytes)) = some (some (.int .u64 0), 1, 8))
theorem ldB_succ (P : Nat → Pg) (k : Nat) : ldB P (k + 1) = ldB P k ++ (P k).rb k := by unfold ldB; rw [List.range_succ, List.flatMap_append]; simp
theorem ldNums_succ (P : Nat → Pg) (k : Nat) : ldNums P (k + 1) = ldNums P k ++ [(P k).rn k] := by unfold ldNums; rw [List.range_succ, List.map_append]; rfl
theorem ldTop_succ (P : Nat → Pg) (m k : Nat) : ldTop P m (k + 1) = max (ldTop P m k) (P k).rs := by unfold ldTop; rw [List.range_succ, List.foldl_append]; rfl
theorem u64s_append (a b : List Nat) : u64s (a ++ b) = u64s a ++ u64s b := by simp [u64s]
theorem rgB_len (b : List UInt8) (k : Nat) : (rgB b k).length ≤ 368 := by
  unfold rgB
  split
  · rename_i h
    unfold rgForm at h
    simp only [Bool.and_eq_true, decide_eq_true_eq] at h
    have h4 : num (cut b 4 8) ≤ 368 := h.2.2.2
    generalize num (cut b 4 8) = q at h4
    unfold cut
    rw [List.length_take]
    omega
  · simp
theorem pg_rb_len (p : Pg) (k : Nat) : (p.rb k).length ≤ 368 := by cases p <;> first | exact rgB_len _ _ | simp [Pg.rb]
theorem ldB_le (P : Nat → Pg) (k : Nat) : (ldB P k).length ≤ 368 * k := by
  induction k with
  | zero => simp [ldB]
  | succ k ih => rw [ldB_succ, List.length_append]; have := pg_rb_len (P k) k; omega
theorem rgN_lt (b : List UInt8) (k : Nat) : rgN b k < 18446744073709551616 := by
  unfold rgN
  split
  · exact num_cut_lt2 b 8 16
  · omega
theorem pg_rn_lt (p : Pg) (k : Nat) : p.rn k < 18446744073709551616 := by cases p <;> first | exact rgN_lt _ _ | (simp [Pg.rn])
theorem pg_rs_lt (p : Pg) : p.rs < 18446744073709551616 := by cases p <;> first | exact rgN_lt _ _ | (simp [Pg.rs])
theorem ldTop_lt (P : Nat → Pg) (m : Nat) (hm : m < 18446744073709551616) (k : Nat) : ldTop P m k < 18446744073709551616 := by
  induction k with
  | zero => simpa [ldTop] using hm
  | succ k ih => rw [ldTop_succ]; have := pg_rs_lt (P k); omega
def openBox (h : DevH) (losses : Int) (first : Nat) (R : Value) (num : Nat) (M : Nat) : Array Value := #[.pointer (some ⟨h.d, 0, none⟩), .int .i64 losses, .int .i64 first, R, .slice none 0 0, .int .i64 0, .int .u64 num, .map (some M)]
def zsl : Array Value := #[.int .u64 0, .slice none 0 0]
theorem page_len {N : Nat} {w : World} {h : DevH} {D : Dev} (hd : DevN N w h D) {k : Nat} (hk : k < D.n) {b : List UInt8} (hb : D.page k = .full b) : b.length = 384 := by
  obtain ⟨es, ps, _, _, _, hp⟩ := page_at hd k hk
  rw [hb] at hp
  rcases hp with ⟨v, _, p, q, _, _, _, _, _, hl⟩ | ⟨_, v, _, p, q, _, _, _, _, _, hl⟩ <;> exact hl
section
variable {N : Nat} {w : World} {h : DevH} {D : Dev}
set_option maxRecDepth 100000 in
set_option maxHeartbeats 8000000 in
theorem rload_calls (hd : DevN N w h D) (L : Nat) (losses : Int) (first i num M : Nat) (R : Value) (hb : Blk w L tLog (openBox h losses first R num M)) (hoff : D.off = false) (hfit : first + 4 * i + 4 ≤ D.n) (hnum : num < 18446744073709551616) :
    Calls Tryz.prog 69 #[.pointer (some ⟨L, 0, none⟩), .int .i64 i] w fun e w' => ∃ v, e = .returned (.agg #[.int .u64 (ldS (D.rpg first i)).num, v]) ∧
      w'.ownsRow w.heap.size tItem 5 v (ldS (D.rpg first i)).l.length (its (ldS (D.rpg first i)).l) ∧ DevN N w' h D ∧ Blk w' L tLog (openBox h losses first R (ldTop (D.rpg first i) num 4) M) ∧ Chg (fun k => h.foot k ∨ k = L) w w' := by
  have HD := Lib.hid hd
  have HB := Lib.hid hb
  have hn4 := hd.nmost
  have hLl := hb.lt
  obtain ⟨P, hP⟩ : ∃ P, P = D.rpg first i := ⟨_, rfl⟩
  have HPP : Hid (∀ k, D.page (first + 4 * i + k) = P k) := fun k => by rw [hP]; rfl
  rw [← hP]
  have HOFF := Lib.hid hoff
  have HN := Lib.hid hnum
  have HFIT := Lib.hid hfit
  have hfb : first + 4 * i ≤ 4096 := by omega
  clear hd hb hoff hP hnum
  go_enter Tryz.func69, Tryz.ntmps69
  go_wp2
  go_loopg [5, 6, 14] 4 (fun gk v5' v6' vi wr => ∃ (k : Nat) (v5 v6 : Value), v5 = v5' ∧ v6 = v6' ∧ gk = 4 - k ∧ k ≤ 4 ∧ vi = .int .i64 k ∧
    Hid (wr.ownsRow (w.heap.size + 1) tU8 1 v5 (ldB P k).length (bys (ldB P k)) ∧ wr.ownsRow (w.heap.size + 1) tU64 1 v6 k (u64s (ldNums P k)) ∧ Blk wr L tLog (openBox h losses first R (ldTop P num k) M) ∧ DevN N wr h D ∧ Blk wr w.heap.size tSeal zsl ∧ Chg (fun k => h.foot k ∨ k = L) w wr))
  case atStart => exact ⟨0, _, _, rfl, rfl, rfl, Nat.zero_le _, rfl, World.ownsRow_nil _ _ _ _, World.ownsRow_nil _ _ _ _, HB.out.alloc _, HD.out.chgNo (by (repeat (first | (with_reducible exact Chg.refl _ _) | (with_reducible assumption) | (with_reducible refine Chg.drewN ?_ _) | (with_reducible refine Chg.drew ?_) | (with_reducible refine Chg.alloc ?_ _) | (with_reducible refine Chg.setCell ?_ (by first | (left; simp [DevH.foot]; done) | (right; simp; done) | (right; simp; omega)) _)))), Blk.new _ _ _, by (repeat (first | (with_reducible exact Chg.refl _ _) | (with_reducible assumption) | (with_reducible refine Chg.drewN ?_ _) | (with_reducible refine Chg.drew ?_) | (with_reducible refine Chg.alloc ?_ _) | (with_reducible refine Chg.setCell ?_ (by first | (left; simp [DevH.foot]; done) | (right; simp; done) | (right; simp; omega)) _)))⟩
  case round =>
    obtain ⟨k, v5, v6, rfl, rfl, rfl, hk, rfl, H⟩ := hrel
    have hbl := ldB_le P k
    have hwz : w.heap.size + 1 ≤ wr.heap.size := H.out.2.2.2.2.1.lt
    by_cases hlt : k < 4
    · have d0 := H.out.2.2.1.cell 0
      have d2 := H.out.2.2.1.cell 2
      simp [openBox] at d0 d2
      have hll : L < wr.heap.size := H.out.2.2.1.lt
      have hadd1 : IntKind.i64.wrap (4 * (i : Int)) = 4 * (i : Int) := IntWalk.i64_in _ (by omega)
      have hadd2 : IntKind.i64.wrap ((first : Int) + 4 * (i : Int)) = (first : Int) + 4 * (i : Int) := IntWalk.i64_in _ (by omega)
      have hadd3 : IntKind.i64.wrap ((first : Int) + 4 * (i : Int) + (k : Int)) = (first : Int) + 4 * (i : Int) + (k : Int) := IntWalk.i64_in _ (by omega)
      have HRD := fun W => Lib.hid (fun hc : Chg No wr W => read_calls (H.out.2.2.2.1.chgNo hc) ((first : Int) + 4 * (i : Int) + (k : Int)))
      have hhas : D.has ((first : Int) + 4 * (i : Int) + (k : Int)) = true := by
        have := HFIT.out
        simp only [Dev.has, Bool.and_eq_true, decide_eq_true_eq]; omega
      have htn : ((first : Int) + 4 * (i : Int) + (k : Int)).toNat = first + 4 * i + k := by omega
      have hE : D.readE ((first : Int) + 4 * (i : Int) + (k : Int)) = (P k).err := by unfold Dev.readE; rw [hhas, HOFF.out, htn, HPP.out]; rfl
      have hR : D.read ((first : Int) + 4 * (i : Int) + (k : Int)) = (P k).data := by unfold Dev.read; rw [hhas, HOFF.out, htn, HPP.out]; rfl
      rw [hE, hR] at HRD
      have HBS : Hid (ldB P (k + 1) = ldB P k ++ (P k).rb k) := ldB_succ P k
      have HNS : Hid (ldNums P (k + 1) = ldNums P k ++ [(P k).rn k]) := ldNums_succ P k
      have HTS : Hid (ldTop P num (k + 1) = max (ldTop P num k) (P k).rs) := ldTop_succ P num k
      have htl := ldTop_lt P num HN.out k
      obtain ⟨top, htop⟩ : ∃ top, top = ldTop P num k := ⟨_, rfl⟩
      obtain ⟨bb, hbb⟩ : ∃ bb, bb = ldB P k := ⟨_, rfl⟩
      obtain ⟨ns, hns⟩ : ∃ ns, ns = ldNums P k := ⟨_, rfl⟩
      rw [← htop] at H HTS htl
      rw [← hbb] at H HBS hbl
      rw [← hns] at H HNS
      have hi2 : (first : Int) + 4 * (i : Int) + (k : Int) ≤ 5000 := by omega
      clear hhas htn hE hR htop hbb hns
      go_wp2_with fail
      go_region_held3 (fun w' => w'.cell? ⟨L, 0, none⟩ = some (.pointer (some ⟨h.d, 0, none⟩)) ∧ w'.cell? ⟨L, 2, none⟩ = some (.int .i64 (first : Int))) (first | go_keep)
        ((go_at_call 62
          refine ((HRD _).out (by (repeat (first | (with_reducible exact Chg.refl _ _) | (with_reducible assumption) | (with_reducible refine Chg.drewN ?_ _) | (with_reducible refine Chg.drew ?_) | (with_reducible refine Chg.alloc ?_ _) | (with_reducible refine Chg.setCell ?_ (by first | (left; simp [DevH.foot]; done) | (right; simp; done) | (right; simp; omega)) _))))).mono ?_
          rintro e w1 ⟨vp, rfl, hop, hd1, hc1⟩
          have HOP := Lib.hid hop
          have HD1 := Lib.hid hd1
          have HC1 : Hid (Chg h.foot wr w1) := (by (repeat (first | (with_reducible exact Chg.refl _ _) | (with_reducible assumption) | (with_reducible refine Chg.drewN ?_ _) | (with_reducible refine Chg.drew ?_) | (with_reducible refine Chg.alloc ?_ _) | (with_reducible refine Chg.setCell ?_ (by first | (left; simp [DevH.foot]; done) | (right; simp; done) | (right; simp; omega)) _))) : Chg No wr _).mono (fun _ _ h => h.elim) |>.trans hc1
          have HLB := Lib.hid (H.out.2.2.1.chg HC1.out (H.out.2.2.2.1.not_foot H.out.2.2.1 (by decide) (by decide)))
          clear hop hd1 hc1
          have d0' := HLB.out.cell 0
          have d2' := HLB.out.cell 2
          simp [openBox] at d0' d2'))
      have hlb1 : L < w1.heap.size := HLB.out.lt
      have HO5 : Hid (w1.ownsRow (w.heap.size + 1) tU8 1 v5 bb.length (bys bb)) := own_chg H.out.1 HC1.out (own_foot H.out.2.2.2.1 H.out.1 (by decide) (by decide))
      have HO6 : Hid (w1.ownsRow (w.heap.size + 1) tU64 1 v6 k (u64s ns)) := own_chg H.out.2.1 HC1.out (own_foot H.out.2.2.2.1 H.out.2.1 (by decide) (by decide))
      have HZ1 : Hid (Blk w1 w.heap.size tSeal zsl) := H.out.2.2.2.2.1.chg HC1.out (H.out.2.2.2.1.not_foot H.out.2.2.2.2.1 (by decide) (by decide))
      have HCW : Hid (Chg (fun k => h.foot k ∨ k = L) w w1) := H.out.2.2.2.2.2.then HC1.out (fun k _ hk => .inl hk)
      have hw1 : w.heap.size + 1 ≤ w1.heap.size := HZ1.out.lt
      cases hpk : P k with
      | full b =>
        rw [hpk] at HOP HBS HNS HTS
        have hlen : b.length = 384 := page_len (k := first + 4 * i + k) H.out.2.2.2.1 (by have := HFIT.out; omega) (by rw [HPP.out, hpk])
        have hop2 : w1.ownsRow wr.heap.size tU8 1 vp b.length (bys b) := HOP.out
        rw [hlen] at hop2
        obtain ⟨Ap, cp, rfl, hncp, hrp⟩ := own_slice hop2
        have HRP : Hid (Rd w1 tU8 Ap 384 (bys b)) := by show Rd _ _ _ _ _; simpa using hrp
        have HST := fun W => Lib.hid (fun hc : Chg No w1 W => stands_page Ap cp b W (HRP.out.chg hc (fun _ _ _ _ h => h)) hncp)
        have HRG := fun W => Lib.hid (fun hr : Rd W tU8 Ap 384 (bys b) => read_page Ap cp b k W hr hncp (by omega))
        have hrbl : (rgB b k).length ≤ 368 := rgB_len b k
        obtain ⟨q, hq⟩ : ∃ q, q = (Pg.full b).rs := ⟨_, rfl⟩
        obtain ⟨qn, hqn⟩ : ∃ qn, qn = rgN b k := ⟨_, rfl⟩
        obtain ⟨qb, hqb⟩ : ∃ qb, qb = rgB b k := ⟨_, rfl⟩
        have HBS2 : Hid (ldB P (k + 1) = bb ++ qb) := by show _ = _; rw [HBS.out, hqb]; rfl
        have HNS2 : Hid (ldNums P (k + 1) = ns ++ [qn]) := by show _ = _; rw [HNS.out, hqn]; rfl
        rw [← hq] at HST HTS
        simp only [← hqn, ← hqb] at HRG
        rw [← hqb] at hrbl
        have d6 := HLB.out.cell 6
        have f6 := HLB.out.frozen 6
        simp [openBox] at d6
        simp only [Pg.err]
        have HLBC : Hid (∀ W, Chg No w1 W → Blk W L tLog (openBox h losses first R top M)) := fun W hc => HLB.out.chg hc (fun h => h)
        clear hlen hop2 hrp hq hqn hqb hpk HRD d0' d2' d0 d2 HBS HNS HOP
        have HMX : Hid (∃ mx : Nat, ldTop P num (k + 1) = mx) := ⟨_, rfl⟩
        by_cases hmx : top < q
        · have m1 : (top : Int) < (q : Int) := by omega
          have m2 : ¬ (q : Int) < (top : Int) := by omega
          have HT2 : Hid (ldTop P num (k + 1) = q) := by show _ = _; rw [HTS.out]; omega
          clear HTS
          go_wp2_with fail
          first
            | (go_region_with
                ((go_at_call 97
                  refine ((HST _).out (by (repeat (first | (with_reducible exact Chg.refl _ _) | (with_reducible assumption) | (with_reducible refine Chg.drewN ?_ _) | (with_reducible refine Chg.drew ?_) | (with_reducible refine Chg.alloc ?_ _) | (with_reducible refine Chg.setCell ?_ (by first | (left; simp [DevH.foot]; done) | (right; simp; done) | (right; simp; omega)) _))))).mono ?_
                  rintro e w2 ⟨rfl, hc2⟩
                  have HC2 : Hid (Chg No w1 w2) := (by (repeat (first | (with_reducible exact Chg.refl _ _) | (with_reducible assumption) | (with_reducible refine Chg.drewN ?_ _) | (with_reducible refine Chg.drew ?_) | (with_reducible refine Chg.alloc ?_ _) | (with_reducible refine Chg.setCell ?_ (by first | (left; simp [DevH.foot]; done) | (right; simp; done) | (right; simp; omega)) _))) : Chg No w1 _).trans hc2
                  have hlb2 := HLBC.out w2 HC2.out
                  have HLB2 := Lib.hid hlb2
                  have d6' := hlb2.cell 6
                  have f6' := hlb2.frozen 6
                  have hll2 := hlb2.lt
                  simp [openBox] at d6'
                  clear hc2 hlb2)))
            | fail "region"
          all_goals
            go_wp2_with fail
            generalize hWe : World.setCell w2 ⟨L, 6, none⟩ (.int .u64 (q : Nat)) = W
            have hW : Chg (fun j => j = L) w2 W ∧ Blk W L tLog (openBox h losses first R q M) := by
              rw [← hWe]
              exact ⟨Chg.setCell (S := fun j => j = L) (Chg.refl _ _) (.inl rfl) _, by have := HLB2.out.set_ 6 (.int .u64 (q : Nat)); simpa [openBox] using this⟩
            clear hWe
            have HCW2 : Hid (Chg (fun j => j = L) w1 W) := (HC2.out.mono (fun _ _ h => h.elim)).trans hW.1
            have HLW : Hid (Blk W L tLog (openBox h losses first R (ldTop P num (k + 1)) M)) := by show Blk _ _ _ _; rw [HT2.out]; exact hW.2
            have HLB3 := Lib.hid HLB.out
            clear hW HLB2 d6' f6' hll2 HC2 d6 f6
            have hnl : ∀ {g : Nat} {cs : Array Value} {T : TypeId} {fz : Nat × Nat}, w1.heap[g]? = some (.cells cs T fz) → T ≠ tLog → ¬ g = L := fun hg hT e => by
              subst e
              have := HLB3.out
              unfold Blk at this
              rw [hg] at this
              injection this with this
              injection this with _ e2
              exact hT e2
            have hnl5 : ∀ j, v5.ownBlock = some j → ¬ j = L := fun j hj => by obtain ⟨cs, hg⟩ := own_cells_at HO5.out hj; exact hnl hg (by decide)
            have hnl6 : ∀ j, v6.ownBlock = some j → ¬ j = L := fun j hj => by obtain ⟨cs, hg⟩ := own_cells_at HO6.out hj; exact hnl hg (by decide)
            have HO5W : Hid (W.ownsRow (w.heap.size + 1) tU8 1 v5 bb.length (bys bb)) := own_chg HO5.out HCW2.out hnl5
            have HO6W : Hid (W.ownsRow (w.heap.size + 1) tU64 1 v6 k (u64s ns)) := own_chg HO6.out HCW2.out hnl6
            have HRW : Hid (Rd W tU8 Ap 384 (bys b)) := HRP.out.chg HCW2.out (fun g cur fz hg => hnl hg (by decide))
            have HZW : Hid (Blk W w.heap.size tSeal zsl) := HZ1.out.chg HCW2.out (hnl HZ1.out (by decide))
            have HDW : Hid (DevN N W h D) := dev_ty HD1.out HCW2.out (fun j _ e => by subst e; exact ⟨_, tLog, _, HLB3.out, by decide, by decide, by decide, by decide⟩)
            have HCWW : Hid (Chg (fun k => h.foot k ∨ k = L) w W) := HCW.out.then HCW2.out (fun j _ e => .inr e)
            have hWz : w.heap.size + 1 ≤ W.heap.size := HZW.out.lt
            clear hnl hnl5 hnl6
            refine ((HRG _).out HRW.out).mono ?_
            rintro e w3 ⟨vb, rfl, hcut, hc3⟩
            obtain ⟨Ab, cb, rfl, hncb, hrdb⟩ := hcut
            have HRB : Hid (Rd w3 tU8 Ab qb.length (bys qb)) := hrdb w3 (HRW.out.chg hc3 (fun _ _ _ _ h => h))
            have HO5X : Hid (w3.ownsRow (w.heap.size + 1) tU8 1 v5 bb.length (bys bb)) := own_chg HO5W.out hc3 (fun _ _ h => h)
            have HC3 := Lib.hid hc3
            have hw3 : w.heap.size + 1 ≤ w3.heap.size := by have := hc3.size; omega
            have HO6X : Hid (w3.ownsRow (w.heap.size + 1) tU64 1 v6 k (u64s ns)) := own_chg HO6W.out HC3.out (fun _ _ h => h)
            clear hrdb hc3
            have hA : Rd w3 tU8 Ab (qb.length * 1) (bys qb) := by rw [Nat.mul_one]; exact HRB.out
            have h63 : bb.length + qb.length ≤ maxLen := by simp only [maxLen]; omega
            have hby : (bb.length + qb.length) * 1 ≤ 140737488355328 := by omega
            go_wp2_with (first
              | (at_builtin; (refine wpList_app _ rfl (.tmp 55) (.tmp 56) tBytes rfl tU8 Tryz.underlying40 ti_u8 rfl (by omega) (w.heap.size + 1) v5 bb.length (bys bb) rfl HO5X.out tU8 Ab qb.length _ (bys qb) rfl hA bys_one_cell h63 hby hw3 ?_); intro v7 w7 ho7 hg7 hb7; have HO7 := Lib.hid ho7; have HG7 : Hid (Chg (fun j => Value.ownBlock v5 = some j) w3 w7) := Chg.grown (by (repeat (first | (with_reducible exact Chg.refl _ _) | (with_reducible assumption) | (with_reducible refine Chg.drewN ?_ _) | (with_reducible refine Chg.drew ?_) | (with_reducible refine Chg.alloc ?_ _) | (with_reducible refine Chg.setCell ?_ (by first | (left; simp [DevH.foot]; done) | (right; simp; done) | (right; simp; omega)) _)))) hg7 (fun j hj => .inl hj); have hw7 : w.heap.size + 1 ≤ w7.heap.size := Nat.le_trans hw3 HG7.out.size; have HO6Y : Hid (w7.ownsRow (w.heap.size + 1) tU64 1 v6 k (u64s ns)) := own_chg HO6X.out HG7.out (fun j hj e => own_ne HO6X.out HO5X.out (by decide) j hj e); clear ho7 hg7 hb7)
              | (at_builtin; (refine wpList_app _ rfl (.tmp 58) (.tmp 60) tU64s rfl tU64 Tryz.underlying167 ti_u64 rfl (by omega) (w.heap.size + 1) v6 k (u64s ns) rfl (HO6Y.out.alloc _) tU64 _ 1 1 [.int .u64 qn] rfl (rd_one _ _ _) (by simp [Value.oneCell']) (by simp only [maxLen]; omega) (by omega) (by simp; omega) ?_); intro v8 w8 ho8 hg8 hb8; have HO8 := Lib.hid ho8; have HG8 : Hid (Chg (fun j => Value.ownBlock v6 = some j) w7 w8) := Chg.grown (by (repeat (first | (with_reducible exact Chg.refl _ _) | (with_reducible assumption) | (with_reducible refine Chg.drewN ?_ _) | (with_reducible refine Chg.drew ?_) | (with_reducible refine Chg.alloc ?_ _) | (with_reducible refine Chg.setCell ?_ (by first | (left; simp [DevH.foot]; done) | (right; simp; done) | (right; simp; omega)) _)))) hg8 (fun j hj => .inl hj); clear ho8 hg8 hb8))
            go_roundg (4 - (k + 1))
            case measure => omega
            case rel =>
              have hne5 : ∀ j, v5.ownBlock = some j → w.heap.size + 1 ≤ j := own_new HO5.out
              have hne6 : ∀ j, v6.ownBlock = some j → w.heap.size + 1 ≤ j := own_new HO6.out
              have HL3 := HLW.out.chg HC3.out (fun h => h)
              have HL7 := HL3.chg HG7.out (fun e => own_other HO5X.out HL3 (by decide) e)
              have HL8 := HL7.chg HG8.out (fun e => own_other HO6Y.out HL7 (by decide) e)
              have HZ3 := HZW.out.chg HC3.out (fun h => h)
              have HZ7 := HZ3.chg HG7.out (fun e => own_other HO5X.out HZ3 (by decide) e)
              have HZ8 := HZ7.chg HG8.out (fun e => own_other HO6Y.out HZ7 (by decide) e)
              have HDV7 : DevN N w7 h D := (HDW.out.chgNo HC3.out).chg HG7.out (fun e => own_foot (HDW.out.chgNo HC3.out) HO5X.out (by decide) (by decide) _ e (.inl rfl)) (fun e => own_foot (HDW.out.chgNo HC3.out) HO5X.out (by decide) (by decide) _ e (.inr (.inl rfl))) (fun e => own_foot (HDW.out.chgNo HC3.out) HO5X.out (by decide) (by decide) _ e (.inr (.inr rfl))) (fun g cs T hg _ _ e => by have h1 := hne5 g e; have h2 := HD.out.below; omega)
              have HDV8 : DevN N w8 h D := dev_ty HDV7 HG8.out (fun j _ e => by obtain ⟨cs, hg⟩ := own_cells_at HO6Y.out e; exact ⟨cs, tU64, _, hg, by decide, by decide, by decide, by decide⟩)
              refine ⟨k + 1, _, _, rfl, rfl, rfl, by omega, by go_num, ?_, ?_, ?_, ?_, ?_, ?_⟩
              · rw [HBS2.out, List.length_append, bys_append]; exact own_chg HO7.out HG8.out (fun j hj e => own_ne HO7.out HO6Y.out (by decide) j hj e)
              · rw [HNS2.out, u64s_append]; exact HO8.out
              · exact HL8
              · exact HDV8
              · exact HZ8
              · exact ((HCWW.out.then HC3.out (fun _ _ h => h.elim)).then HG7.out (fun j hj e => by have := hne5 j e; omega)).then HG8.out (fun j hj e => by have := hne6 j e; omega)
        · have m1 : ¬ (top : Int) < (q : Int) := by omega
          have HT2 : Hid (ldTop P num (k + 1) = top) := by show _ = _; rw [HTS.out]; omega
          clear HTS
          go_wp2_with fail
          first
            | (go_region_with
                ((go_at_call 97
                  refine ((HST _).out (by (repeat (first | (with_reducible exact Chg.refl _ _) | (with_reducible assumption) | (with_reducible refine Chg.drewN ?_ _) | (with_reducible refine Chg.drew ?_) | (with_reducible refine Chg.alloc ?_ _) | (with_reducible refine Chg.setCell ?_ (by first | (left; simp [DevH.foot]; done) | (right; simp; done) | (right; simp; omega)) _))))).mono ?_
                  rintro e w2 ⟨rfl, hc2⟩
                  have HC2 : Hid (Chg No w1 w2) := (by (repeat (first | (with_reducible exact Chg.refl _ _) | (with_reducible assumption) | (with_reducible refine Chg.drewN ?_ _) | (with_reducible refine Chg.drew ?_) | (with_reducible refine Chg.alloc ?_ _) | (with_reducible refine Chg.setCell ?_ (by first | (left; simp [DevH.foot]; done) | (right; simp; done) | (right; simp; omega)) _))) : Chg No w1 _).trans hc2
                  have hlb2 := HLBC.out w2 HC2.out
                  have HLB2 := Lib.hid hlb2
                  have d6' := hlb2.cell 6
                  have f6' := hlb2.frozen 6
                  have hll2 := hlb2.lt
                  simp [openBox] at d6'
                  clear hc2 hlb2)))
            | fail "region"
          all_goals
            go_wp2_with fail
            generalize hWe : World.setCell w2 ⟨L, 6, none⟩ (.int .u64 (top : Nat)) = W
            have hW : Chg (fun j => j = L) w2 W ∧ Blk W L tLog (openBox h losses first R top M) := by
              rw [← hWe]
              exact ⟨Chg.setCell (S := fun j => j = L) (Chg.refl _ _) (.inl rfl) _, by have := HLB2.out.set_ 6 (.int .u64 (top : Nat)); simpa [openBox] using this⟩
            clear hWe
            have HCW2 : Hid (Chg (fun j => j = L) w1 W) := (HC2.out.mono (fun _ _ h => h.elim)).trans hW.1
            have HLW : Hid (Blk W L tLog (openBox h losses first R (ldTop P num (k + 1)) M)) := by show Blk _ _ _ _; rw [HT2.out]; exact hW.2
            have HLB3 := Lib.hid HLB.out
            clear hW HLB2 d6' f6' hll2 HC2 d6 f6
            have hnl : ∀ {g : Nat} {cs : Array Value} {T : TypeId} {fz : Nat × Nat}, w1.heap[g]? = some (.cells cs T fz) → T ≠ tLog → ¬ g = L := fun hg hT e => by
              subst e
              have := HLB3.out
              unfold Blk at this
              rw [hg] at this
              injection this with this
              injection this with _ e2
              exact hT e2
            have hnl5 : ∀ j, v5.ownBlock = some j → ¬ j = L := fun j hj => by obtain ⟨cs, hg⟩ := own_cells_at HO5.out hj; exact hnl hg (by decide)
            have hnl6 : ∀ j, v6.ownBlock = some j → ¬ j = L := fun j hj => by obtain ⟨cs, hg⟩ := own_cells_at HO6.out hj; exact hnl hg (by decide)
            have HO5W : Hid (W.ownsRow (w.heap.size + 1) tU8 1 v5 bb.length (bys bb)) := own_chg HO5.out HCW2.out hnl5
            have HO6W : Hid (W.ownsRow (w.heap.size + 1) tU64 1 v6 k (u64s ns)) := own_chg HO6.out HCW2.out hnl6
            have HRW : Hid (Rd W tU8 Ap 384 (bys b)) := HRP.out.chg HCW2.out (fun g cur fz hg => hnl hg (by decide))
            have HZW : Hid (Blk W w.heap.size tSeal zsl) := HZ1.out.chg HCW2.out (hnl HZ1.out (by decide))
            have HDW : Hid (DevN N W h D) := dev_ty HD1.out HCW2.out (fun j _ e => by subst e; exact ⟨_, tLog, _, HLB3.out, by decide, by decide, by decide, by decide⟩)
            have HCWW : Hid (Chg (fun k => h.foot k ∨ k = L) w W) := HCW.out.then HCW2.out (fun j _ e => .inr e)
            have hWz : w.heap.size + 1 ≤ W.heap.size := HZW.out.lt
            clear hnl hnl5 hnl6
            refine ((HRG _).out HRW.out).mono ?_
            rintro e w3 ⟨vb, rfl, hcut, hc3⟩
            obtain ⟨Ab, cb, rfl, hncb, hrdb⟩ := hcut
            have HRB : Hid (Rd w3 tU8 Ab qb.length (bys qb)) := hrdb w3 (HRW.out.chg hc3 (fun _ _ _ _ h => h))
            have HO5X : Hid (w3.ownsRow (w.heap.size + 1) tU8 1 v5 bb.length (bys bb)) := own_chg HO5W.out hc3 (fun _ _ h => h)
            have HC3 := Lib.hid hc3
            have hw3 : w.heap.size + 1 ≤ w3.heap.size := by have := hc3.size; omega
            have HO6X : Hid (w3.ownsRow (w.heap.size + 1) tU64 1 v6 k (u64s ns)) := own_chg HO6W.out HC3.out (fun _ _ h => h)
            clear hrdb hc3
            have hA : Rd w3 tU8 Ab (qb.length * 1) (bys qb) := by rw [Nat.mul_one]; exact HRB.out
            have h63 : bb.length + qb.length ≤ maxLen := by simp only [maxLen]; omega
            have hby : (bb.length + qb.length) * 1 ≤ 140737488355328 := by omega
            go_wp2_with (first
              | (at_builtin; (refine wpList_app _ rfl (.tmp 55) (.tmp 56) tBytes rfl tU8 Tryz.underlying40 ti_u8 rfl (by omega) (w.heap.size + 1) v5 bb.length (bys bb) rfl HO5X.out tU8 Ab qb.length _ (bys qb) rfl hA bys_one_cell h63 hby hw3 ?_); intro v7 w7 ho7 hg7 hb7; have HO7 := Lib.hid ho7; have HG7 : Hid (Chg (fun j => Value.ownBlock v5 = some j) w3 w7) := Chg.grown (by (repeat (first | (with_reducible exact Chg.refl _ _) | (with_reducible assumption) | (with_reducible refine Chg.drewN ?_ _) | (with_reducible refine Chg.drew ?_) | (with_reducible refine Chg.alloc ?_ _) | (with_reducible refine Chg.setCell ?_ (by first | (left; simp [DevH.foot]; done) | (right; simp; done) | (right; simp; omega)) _)))) hg7 (fun j hj => .inl hj); have hw7 : w.heap.size + 1 ≤ w7.heap.size := Nat.le_trans hw3 HG7.out.size; have HO6Y : Hid (w7.ownsRow (w.heap.size + 1) tU64 1 v6 k (u64s ns)) := own_chg HO6X.out HG7.out (fun j hj e => own_ne HO6X.out HO5X.out (by decide) j hj e); clear ho7 hg7 hb7)
              | (at_builtin; (refine wpList_app _ rfl (.tmp 58) (.tmp 60) tU64s rfl tU64 Tryz.underlying167 ti_u64 rfl (by omega) (w.heap.size + 1) v6 k (u64s ns) rfl (HO6Y.out.alloc _) tU64 _ 1 1 [.int .u64 qn] rfl (rd_one _ _ _) (by simp [Value.oneCell']) (by simp only [maxLen]; omega) (by omega) (by simp; omega) ?_); intro v8 w8 ho8 hg8 hb8; have HO8 := Lib.hid ho8; have HG8 : Hid (Chg (fun j => Value.ownBlock v6 = some j) w7 w8) := Chg.grown (by (repeat (first | (with_reducible exact Chg.refl _ _) | (with_reducible assumption) | (with_reducible refine Chg.drewN ?_ _) | (with_reducible refine Chg.drew ?_) | (with_reducible refine Chg.alloc ?_ _) | (with_reducible refine Chg.setCell ?_ (by first | (left; simp [DevH.foot]; done) | (right; simp; done) | (right; simp; omega)) _)))) hg8 (fun j hj => .inl hj); clear ho8 hg8 hb8))
            go_roundg (4 - (k + 1))
            case measure => omega
            case rel =>
              have hne5 : ∀ j, v5.ownBlock = some j → w.heap.size + 1 ≤ j := own_new HO5.out
              have hne6 : ∀ j, v6.ownBlock = some j → w.heap.size + 1 ≤ j := own_new HO6.out
              have HL3 := HLW.out.chg HC3.out (fun h => h)
              have HL7 := HL3.chg HG7.out (fun e => own_other HO5X.out HL3 (by decide) e)
              have HL8 := HL7.chg HG8.out (fun e => own_other HO6Y.out HL7 (by decide) e)
              have HZ3 := HZW.out.chg HC3.out (fun h => h)
              have HZ7 := HZ3.chg HG7.out (fun e => own_other HO5X.out HZ3 (by decide) e)
              have HZ8 := HZ7.chg HG8.out (fun e => own_other HO6Y.out HZ7 (by decide) e)
              have HDV7 : DevN N w7 h D := (HDW.out.chgNo HC3.out).chg HG7.out (fun e => own_foot (HDW.out.chgNo HC3.out) HO5X.out (by decide) (by decide) _ e (.inl rfl)) (fun e => own_foot (HDW.out.chgNo HC3.out) HO5X.out (by decide) (by decide) _ e (.inr (.inl rfl))) (fun e => own_foot (HDW.out.chgNo HC3.out) HO5X.out (by decide) (by decide) _ e (.inr (.inr rfl))) (fun g cs T hg _ _ e => by have h1 := hne5 g e; have h2 := HD.out.below; omega)
              have HDV8 : DevN N w8 h D := dev_ty HDV7 HG8.out (fun j _ e => by obtain ⟨cs, hg⟩ := own_cells_at HO6Y.out e; exact ⟨cs, tU64, _, hg, by decide, by decide, by decide, by decide⟩)
              refine ⟨k + 1, _, _, rfl, rfl, rfl, by omega, by go_num, ?_, ?_, ?_, ?_, ?_, ?_⟩
              · rw [HBS2.out, List.length_append, bys_append]; exact own_chg HO7.out HG8.out (fun j hj e => own_ne HO7.out HO6Y.out (by decide) j hj e)
              · rw [HNS2.out, u64s_append]; exact HO8.out
              · exact HL8
              · exact HDV8
              · exact HZ8
              · exact ((HCWW.out.then HC3.out (fun _ _ h => h.elim)).then HG7.out (fun j hj e => by have := hne5 j e; omega)).then HG8.out (fun j hj e => by have := hne6 j e; omega)
      | _ =>
        rw [hpk] at HOP HBS HNS HTS
        simp only [Pg.err, Pg.data, Pg.rb, Pg.rn, Pg.rs, List.append_nil, Nat.max_zero] at HBS HNS HTS ⊢
        clear hpk HRD d0' d2'
        go_wp2_with (first
          | (at_builtin; go_loud (refine wpList_app _ rfl (.tmp 36) (.tmp 37) tU64s rfl tU64 Tryz.underlying167 ti_u64 rfl (by omega) (w.heap.size + 1) _ k (u64s ns) rfl (HO6.out.alloc _) tU64 _ 1 1 [.int .u64 0] rfl (rd_one _ _ _) (by simp [Value.oneCell']) (by simp only [maxLen]; omega) (by omega) (by simp; omega) ?_); intro v7 w7 ho7 hg7 hb7; have HO7 := Lib.hid ho7; have HG7 : Hid (Chg (fun j => Value.ownBlock v6 = some j) w1 w7) := Chg.grown (by (repeat (first | (with_reducible exact Chg.refl _ _) | (with_reducible assumption) | (with_reducible refine Chg.drewN ?_ _) | (with_reducible refine Chg.drew ?_) | (with_reducible refine Chg.alloc ?_ _) | (with_reducible refine Chg.setCell ?_ (by first | (left; simp [DevH.foot]; done) | (right; simp; done) | (right; simp; omega)) _)))) hg7 (fun j hj => .inl hj); clear ho7 hg7 hb7))
        go_roundg (4 - (k + 1))
        case measure => omega
        case rel =>
          have hne6 : ∀ j, v6.ownBlock = some j → w.heap.size + 1 ≤ j := own_new HO6.out
          refine ⟨k + 1, _, _, rfl, rfl, rfl, by omega, by go_num, ?_, ?_, ?_, ?_, ?_, ?_⟩
          · rw [HBS.out]; exact own_chg HO5.out HG7.out (fun j hj e => own_ne HO5.out HO6.out (by decide) j hj e)
          · rw [HNS.out, u64s_append]; exact HO7.out
          · rw [HTS.out]; exact HLB.out.chg HG7.out (fun e => own_other HO6.out HLB.out (by decide) e)
          · exact dev_ty HD1.out HG7.out (fun j _ e => by obtain ⟨cs, hg⟩ := own_cells_at HO6.out e; exact ⟨cs, tU64, _, hg, by decide, by decide, by decide, by decide⟩)
          · exact HZ1.out.chg HG7.out (fun e => own_other HO6.out HZ1.out (by decide) e)
          · exact HCW.out.then HG7.out (fun j hj e => by have := hne6 j e; omega)
    · obtain rfl : k = 4 := by omega
      obtain ⟨Ab, cb, rfl, hncb, hrb⟩ := own_slice H.out.1
      obtain ⟨A6, c6, rfl, hnc6, hr6⟩ := own_slice H.out.2.1
      have HLI := Lib.hid (list_calls Ab (ldB P 4).length cb (ldB P 4) wr (by simpa using hrb) (by omega) hncb)
      have hr6' : Rd wr tU64 A6 4 (u64s (ldNums P 4)) := by simpa using hr6
      have HMIN := fun W => Lib.hid (fun hc : Chg No wr W => min_calls A6 4 c6 (ldNums P 4) W (hr6'.chg hc (fun _ _ _ _ h => h)) (by omega) (by omega) hnc6 (fun x hx => by unfold ldNums at hx; obtain ⟨j, _, rfl⟩ := List.mem_map.1 hx; exact pg_rn_lt _ _))
      have HMAX := fun W => Lib.hid (fun hc : Chg No wr W => max_calls A6 4 c6 (ldNums P 4) W (hr6'.chg hc (fun _ _ _ _ h => h)) (by omega) (by omega) hnc6 (fun x hx => by unfold ldNums at hx; obtain ⟨j, _, rfl⟩ := List.mem_map.1 hx; exact pg_rn_lt _ _))
      obtain ⟨g6, o6, hA6, hg6, hx6⟩ := hr6'.at_ (j := 0) (by omega)
      have hn0 := hx6 0 (.int .u64 ((P 0).rn 0 : Nat)) (by simp [ldNums, u64s, List.range_succ])
      subst hA6
      simp only [Nat.add_zero] at hn0
      have HN0 : Hid (∀ W, Chg No wr W → W.cell? ⟨g6, o6, none⟩ = some (.int .u64 ((P 0).rn 0 : Nat))) := fun W hc => (hc.toBelow.cell (p := ⟨g6, o6, none⟩) hg6).trans hn0
      have HSS : Hid (ldS P = match listOf (ldB P 4) with | some l => if listMin (ldNums P 4) = listMax (ldNums P 4) ∧ (P 0).rn 0 ≠ 0 then ⟨(P 0).rn 0, l⟩ else .no | none => .no) := rfl
      obtain ⟨nb, hnb⟩ : ∃ nb, nb = (ldB P 4).length := ⟨_, rfl⟩
      obtain ⟨mn, hmn⟩ : ∃ mn, mn = listMin (ldNums P 4) := ⟨_, rfl⟩
      obtain ⟨mx, hmx⟩ : ∃ mx, mx = listMax (ldNums P 4) := ⟨_, rfl⟩
      obtain ⟨n0, hn0e⟩ : ∃ n0, n0 = (P 0).rn 0 := ⟨_, rfl⟩
      obtain ⟨SS, hSSe⟩ : ∃ SS, SS = ldS P := ⟨_, rfl⟩
      rw [← hmn] at HMIN
      rw [← hmx] at HMAX
      rw [← hn0e] at HN0
      rw [← hmn, ← hmx, ← hn0e, ← hSSe] at HSS
      have HSSE := Lib.hid hSSe
      have hel : listE (ldB P 4) = if (listOf (ldB P 4)).isSome then 0 else 3 := rfl
      have hll : listL (ldB P 4) = (listOf (ldB P 4)).getD [] := rfl
      rw [hel, hll] at HLI
      obtain ⟨lo, hlo⟩ : ∃ lo, lo = listOf (ldB P 4) := ⟨_, rfl⟩
      rw [← hlo] at HLI HSS
      rw [← hnb] at HLI ⊢
      have HZ := Lib.hid H.out.2.2.2.2.1
      clear hrb hr6 hr6' hx6 hn0 hnb hmn hmx hn0e hSSe hel hll hlo hlt hg6
      cases lo with
      | none =>
        have HS : Hid (SS = .no) := HSS.out
        simp only [Option.isSome_none, Bool.false_eq_true, if_false, Option.getD_none] at HLI
        clear HSS HMIN HMAX HN0
        go_wp2_with fail
        refine HLI.out.mono ?_
        rintro e w3 ⟨v, rfl, ho3, hc3⟩
        have HC3 := Lib.hid hc3
        have HO3 := Lib.hid ho3
        have hzb := HZ.out.chg hc3 (fun h => h)
        have z0 := hzb.cell 0
        have z1 := hzb.cell 1
        have f0 := hzb.frozen 0
        have f1 := hzb.frozen 1
        have hzl := hzb.lt
        simp [zsl] at z0 z1
        have HZB := Lib.hid hzb
        have HFIN : Hid (∀ (W : World), Chg (fun j => j = w.heap.size) w3 W → DevN N W h D ∧ Blk W L tLog (openBox h losses first R (ldTop P num 4) M) ∧ Chg (fun k => h.foot k ∨ k = L) w W) := fun W hc => by
          have hb := H.out.2.2.1.chg HC3.out (fun h => h)
          refine ⟨dev_ty (H.out.2.2.2.1.chgNo HC3.out) hc (fun j _ e => by subst e; exact ⟨_, tSeal, _, HZB.out, by decide, by decide, by decide, by decide⟩), hb.chg hc (fun e => hb.ne_ HZB.out (by decide) e), (H.out.2.2.2.2.2.then HC3.out (fun _ _ h => h.elim)).then hc (fun j hj e => by omega)⟩
        clear ho3 hc3 hzb HLI
        go_wp2
        refine bodyPost_ret (v := .agg #[.int .u64 0, .slice none 0 0]) ?_ rfl ⟨.slice none 0 0, ?_, ?_, ?_, ?_, ?_⟩
        · simp [results, Tryz.results69, go_sem, z0, z1, hzl]
        · rw [← HSSE.out, HS.out]; rfl
        · rw [← HSSE.out, HS.out]; exact World.ownsRow_nil _ _ _ _
        · exact (HFIN.out _ (Chg.setCell (S := fun j => j = w.heap.size) (Chg.setCell (S := fun j => j = w.heap.size) (Chg.refl _ _) (.inl rfl) _) (.inl rfl) _)).1
        · exact (HFIN.out _ (Chg.setCell (S := fun j => j = w.heap.size) (Chg.setCell (S := fun j => j = w.heap.size) (Chg.refl _ _) (.inl rfl) _) (.inl rfl) _)).2.1
        · exact (HFIN.out _ (Chg.setCell (S := fun j => j = w.heap.size) (Chg.setCell (S := fun j => j = w.heap.size) (Chg.refl _ _) (.inl rfl) _) (.inl rfl) _)).2.2
      | some l =>
        simp only [Option.isSome_some, if_true, Option.getD_some] at HLI
        simp only at HSS
        by_cases h1 : mn = mx
        · subst h1
          by_cases h2 : n0 = 0
          · subst h2
            have HS : Hid (SS = .no) := by show _ = _; rw [HSS.out]; simp
            have hb1 : ((mn : Int) != (mn : Int)) = false := by simp
            clear HSS
            go_wp2_with fail
            refine HLI.out.mono ?_
            rintro e w3 ⟨v, rfl, ho3, hc3⟩
            have HC3 := Lib.hid hc3
            have HO3 := Lib.hid ho3
            have hzb := HZ.out.chg hc3 (fun h => h)
            have z0 := hzb.cell 0
            have z1 := hzb.cell 1
            have f0 := hzb.frozen 0
            have f1 := hzb.frozen 1
            have hzl := hzb.lt
            simp [zsl] at z0 z1
            have HZB := Lib.hid hzb
            have HFIN : Hid (∀ (W : World), Chg (fun j => j = w.heap.size) w3 W → DevN N W h D ∧ Blk W L tLog (openBox h losses first R (ldTop P num 4) M) ∧ Chg (fun k => h.foot k ∨ k = L) w W) := fun W hc => by
              have hb := H.out.2.2.1.chg HC3.out (fun h => h)
              refine ⟨dev_ty (H.out.2.2.2.1.chgNo HC3.out) hc (fun j _ e => by subst e; exact ⟨_, tSeal, _, HZB.out, by decide, by decide, by decide, by decide⟩), hb.chg hc (fun e => hb.ne_ HZB.out (by decide) e), (H.out.2.2.2.2.2.then HC3.out (fun _ _ h => h.elim)).then hc (fun j hj e => by omega)⟩
            clear ho3 hc3 hzb HLI
            have hn0 := HN0.out w3 HC3.out
            simp only [Int.natCast_zero] at hn0
            clear HN0
            go_wp2_with fail
            refine ((HMIN _).out HC3.out).mono ?_
            rintro e w4 ⟨rfl, rfl⟩
            go_wp2_with fail
            refine ((HMAX _).out HC3.out).mono ?_
            rintro e w4 ⟨rfl, rfl⟩
            go_wp2
            refine bodyPost_ret (v := .agg #[.int .u64 0, .slice none 0 0]) ?_ rfl ⟨.slice none 0 0, ?_, ?_, ?_, ?_, ?_⟩
            · simp [results, Tryz.results69, go_sem, z0, z1, hzl]
            · rw [← HSSE.out, HS.out]; rfl
            · rw [← HSSE.out, HS.out]; exact World.ownsRow_nil _ _ _ _
            · exact (HFIN.out _ (Chg.setCell (S := fun j => j = w.heap.size) (Chg.setCell (S := fun j => j = w.heap.size) (Chg.refl _ _) (.inl rfl) _) (.inl rfl) _)).1
            · exact (HFIN.out _ (Chg.setCell (S := fun j => j = w.heap.size) (Chg.setCell (S := fun j => j = w.heap.size) (Chg.refl _ _) (.inl rfl) _) (.inl rfl) _)).2.1
            · exact (HFIN.out _ (Chg.setCell (S := fun j => j = w.heap.size) (Chg.setCell (S := fun j => j = w.heap.size) (Chg.refl _ _) (.inl rfl) _) (.inl rfl) _)).2.2
          · have HS : Hid (SS = ⟨n0, l⟩) := by show _ = _; rw [HSS.out]; simp [h2]
            have hb1 : ((mn : Int) != (mn : Int)) = false := by simp
            have hb2 : ((n0 : Int) == 0) = false := by simp; omega
            have hb3 : ¬ (n0 : Int) = 0 := by omega
            clear HSS
            go_wp2_with fail
            refine HLI.out.mono ?_
            rintro e w3 ⟨v, rfl, ho3, hc3⟩
            have HC3 := Lib.hid hc3
            have HO3 := Lib.hid ho3
            have hzb := HZ.out.chg hc3 (fun h => h)
            have z0 := hzb.cell 0
            have z1 := hzb.cell 1
            have f0 := hzb.frozen 0
            have f1 := hzb.frozen 1
            have hzl := hzb.lt
            simp [zsl] at z0 z1
            have HZB := Lib.hid hzb
            have HFIN : Hid (∀ (W : World), Chg (fun j => j = w.heap.size) w3 W → DevN N W h D ∧ Blk W L tLog (openBox h losses first R (ldTop P num 4) M) ∧ Chg (fun k => h.foot k ∨ k = L) w W) := fun W hc => by
              have hb := H.out.2.2.1.chg HC3.out (fun h => h)
              refine ⟨dev_ty (H.out.2.2.2.1.chgNo HC3.out) hc (fun j _ e => by subst e; exact ⟨_, tSeal, _, HZB.out, by decide, by decide, by decide, by decide⟩), hb.chg hc (fun e => hb.ne_ HZB.out (by decide) e), (H.out.2.2.2.2.2.then HC3.out (fun _ _ h => h.elim)).then hc (fun j hj e => by omega)⟩
            clear ho3 hc3 hzb HLI
            have hn0 := HN0.out w3 HC3.out
            clear HN0
            go_wp2_with fail
            refine ((HMIN _).out HC3.out).mono ?_
            rintro e w4 ⟨rfl, rfl⟩
            go_wp2_with fail
            refine ((HMAX _).out HC3.out).mono ?_
            rintro e w4 ⟨rfl, rfl⟩
            obtain ⟨Av, cv, rfl, hncv, hrv⟩ := own_slice HO3.out
            clear hrv
            go_wp2
            refine bodyPost_ret (v := .agg #[.int .u64 n0, .slice Av l.length cv]) ?_ rfl ⟨.slice Av l.length cv, ?_, ?_, ?_, ?_, ?_⟩
            · simp [results, Tryz.results69, go_sem, z0, z1, hzl]
            · rw [← HSSE.out, HS.out]
            · rw [← HSSE.out, HS.out]
              exact own_base (own_chg HO3.out (Chg.setCell (S := fun j => j = w.heap.size) (Chg.setCell (S := fun j => j = w.heap.size) (Chg.refl _ _) (.inl rfl) _) (.inl rfl) _) (fun j hj e => by have h1 := own_new HO3.out j hj; have h2 := HZ.out.lt; omega)) (by have := HZ.out.lt; omega)
            · exact (HFIN.out _ (Chg.setCell (S := fun j => j = w.heap.size) (Chg.setCell (S := fun j => j = w.heap.size) (Chg.refl _ _) (.inl rfl) _) (.inl rfl) _)).1
            · exact (HFIN.out _ (Chg.setCell (S := fun j => j = w.heap.size) (Chg.setCell (S := fun j => j = w.heap.size) (Chg.refl _ _) (.inl rfl) _) (.inl rfl) _)).2.1
            · exact (HFIN.out _ (Chg.setCell (S := fun j => j = w.heap.size) (Chg.setCell (S := fun j => j = w.heap.size) (Chg.refl _ _) (.inl rfl) _) (.inl rfl) _)).2.2
        · have HS : Hid (SS = .no) := by show _ = _; rw [HSS.out, if_neg (fun hh => h1 hh.1)]
          have hb1 : ((mn : Int) != (mx : Int)) = true := by first | (simp; done) | (simp; omega)
          have hb2 : ¬ (mn : Int) = (mx : Int) := by omega
          clear HSS
          go_wp2_with fail
          refine HLI.out.mono ?_
          rintro e w3 ⟨v, rfl, ho3, hc3⟩
          have HC3 := Lib.hid hc3
          have HO3 := Lib.hid ho3
          have hzb := HZ.out.chg hc3 (fun h => h)
          have z0 := hzb.cell 0
          have z1 := hzb.cell 1
          have f0 := hzb.frozen 0
          have f1 := hzb.frozen 1
          have hzl := hzb.lt
          simp [zsl] at z0 z1
          have HZB := Lib.hid hzb
          have HFIN : Hid (∀ (W : World), Chg (fun j => j = w.heap.size) w3 W → DevN N W h D ∧ Blk W L tLog (openBox h losses first R (ldTop P num 4) M) ∧ Chg (fun k => h.foot k ∨ k = L) w W) := fun W hc => by
            have hb := H.out.2.2.1.chg HC3.out (fun h => h)
            refine ⟨dev_ty (H.out.2.2.2.1.chgNo HC3.out) hc (fun j _ e => by subst e; exact ⟨_, tSeal, _, HZB.out, by decide, by decide, by decide, by decide⟩), hb.chg hc (fun e => hb.ne_ HZB.out (by decide) e), (H.out.2.2.2.2.2.then HC3.out (fun _ _ h => h.elim)).then hc (fun j hj e => by omega)⟩
          clear ho3 hc3 hzb HLI
          have hn0 := HN0.out w3 HC3.out
          clear HN0
          go_wp2_with fail
          refine ((HMIN _).out HC3.out).mono ?_
          rintro e w4 ⟨rfl, rfl⟩
          go_wp2_with fail
          refine ((HMAX _).out HC3.out).mono ?_
          rintro e w4 ⟨rfl, rfl⟩
          go_wp2
          refine bodyPost_ret (v := .agg #[.int .u64 0, .slice none 0 0]) ?_ rfl ⟨.slice none 0 0, ?_, ?_, ?_, ?_, ?_⟩
          · simp [results, Tryz.results69, go_sem, z0, z1, hzl]
          · rw [← HSSE.out, HS.out]; rfl
          · rw [← HSSE.out, HS.out]; exact World.ownsRow_nil _ _ _ _
          · exact (HFIN.out _ (Chg.setCell (S := fun j => j = w.heap.size) (Chg.setCell (S := fun j => j = w.heap.size) (Chg.refl _ _) (.inl rfl) _) (.inl rfl) _)).1
          · exact (HFIN.out _ (Chg.setCell (S := fun j => j = w.heap.size) (Chg.setCell (S := fun j => j = w.heap.size) (Chg.refl _ _) (.inl rfl) _) (.inl rfl) _)).2.1
          · exact (HFIN.out _ (Chg.setCell (S := fun j => j = w.heap.size) (Chg.setCell (S := fun j => j = w.heap.size) (Chg.refl _ _) (.inl rfl) _) (.inl rfl) _)).2.2
end
end Go.Proofs.YtplpbbdakihnfaaGreat
end

section
namespace Go.Proofs.YtplpbbdakihnfaaGreat
open Go.RowKit
open Go.ChangeMaps (setBlock)
attribute [local go_sem ↓] Go.wp_at_zero Go.wp_at_succ
def jnRest (D : Dev) (first gen pages u : Nat) (ms : Marks) : Nat × Marks := jnGo D first gen (pages - u) u ms
theorem jnRest_step (D : Dev) (first gen pages u : Nat) (ms : Marks) (h : u < pages) : jnRest D first gen pages u ms =
    if D.readE ((first + u : Nat) : Int) = 5 then (u, ms)
    else if D.readE ((first + u : Nat) : Int) = 0 then (match jnRead (D.read ((first + u : Nat) : Int)) gen with
      | none => (u, ms)
      | some l => jnRest D first gen pages (u + 1) (note ms l))
    else jnRest D first gen pages (u + 1) ms := by
  unfold jnRest
  rw [show pages - u = (pages - (u + 1)) + 1 by omega, jnGo]
  rfl
theorem jnRest_end (D : Dev) (first gen pages u : Nat) (ms : Marks) (h : pages ≤ u) : jnRest D first gen pages u ms = (u, ms) := by
  unfold jnRest
  rw [show pages - u = 0 by omega]; rfl
theorem jnRead_form {p : List UInt8} {gen : Nat} : jnRead p gen = if jnForm p gen then some (jnL p gen) else none := by
  unfold jnL jnRead
  split <;> rfl
theorem jnL_len (p : List UInt8) (gen : Nat) : (jnL p gen).length ≤ 23 := by
  rw [jnL_form]
  split
  · rename_i h
    unfold jnForm at h
    simp only [Bool.and_eq_true, decide_eq_true_eq] at h
    simp [jnMarks]
    exact h.2.1
  · simp
theorem read_full {N : Nat} {w : World} {h : DevH} {D : Dev} (hd : DevN N w h D) {k : Nat} (hk : k < D.n) (hoff : D.off = false) (he : D.readE (k : Int) = 0) : (D.read (k : Int)).length = 384 := by
  have hh : D.has (k : Int) = true := by simp [Dev.has]; omega
  unfold Dev.readE at he
  unfold Dev.read
  rw [hh, hoff] at he ⊢
  simp only [if_true, Bool.false_eq_true, if_false, Int.toNat_natCast] at he ⊢
  cases hp : D.page k with
  | blank => rw [hp] at he; simp [Pg.err] at he
  | torn => rw [hp] at he; simp [Pg.err] at he
  | full b => exact page_len hd hk hp
set_option maxRecDepth 100000 in
set_option maxHeartbeats 4000000 in
theorem jopen_calls {w : World} {h : DevH} {D : Dev} (hd : DevAt w h D) (hoff : D.off = false) (first pages gen : Nat) (hp : 1 ≤ pages) (hfit : first + pages ≤ D.n) (hg : gen < 18446744073709551616) :
    Calls Tryz.prog 37 #[.pointer (some ⟨h.d, 0, none⟩), .int .i64 first, .int .i64 pages, .int .u64 gen] w fun e w' => ∃ t : JnH, e = .returned (.tuple #[.pointer (some ⟨t.J, 0, none⟩), .int .i64 0]) ∧ JnAt w' h t (Jn.opened D first pages gen) ∧ DevAt w' h D ∧ (∀ k, t.own k → w.heap.size ≤ k) ∧ Chg h.foot w w' := by
  have hm := hd.nmost
  have HPG := fun W => Lib.hid (fun hc : Chg No w W => pages_calls (hd.chgNo hc))
  have HPW := fun W => Lib.hid (fun hc : Chg No w W => power_calls (hd.chgNo hc))
  have HLO := fun W => Lib.hid (fun hc : Chg No w W => losses_calls (hd.chgNo hc))
  rw [hoff] at HPW
  obtain ⟨n, hnn⟩ : ∃ n, n = D.n := ⟨_, rfl⟩
  rw [← hnn] at HPG hm
  have hfn : first + pages ≤ n := by omega
  have HD := Lib.hid hd
  have HOF := Lib.hid hoff
  have HNN := Lib.hid hnn
  have b1 : ¬ (first : Int) < 0 := by omega
  have b2 : ¬ (pages : Int) < 1 := by omega
  have b3 : ¬ (n : Int) < (first : Int) := by omega
  have b4 : ¬ (n : Int) - (first : Int) < (pages : Int) := by omega
  have es : IntKind.i64.wrap ((n : Int) - (first : Int)) = (n : Int) - (first : Int) := IntWalk.i64_in _ (by omega)
  clear hd hoff hnn hfit
  go_enter Tryz.func37, Tryz.ntmps37
  go_wp2_with (first
    | (go_at_call 33; refine ((HPG _).out (by (repeat (first | (with_reducible exact Chg.refl _ _) | (with_reducible assumption) | (with_reducible refine Chg.drewN ?_ _) | (with_reducible refine Chg.drew ?_) | (with_reducible refine Chg.alloc ?_ _) | (with_reducible refine Chg.setCell ?_ (by first | (left; simp [DevH.foot]; done) | (right; simp; done) | (right; simp; omega)) _))))).mono ?_; rintro e w' ⟨rfl, rfl⟩)
    | (go_at_call 34; refine ((HPW _).out (by (repeat (first | (with_reducible exact Chg.refl _ _) | (with_reducible assumption) | (with_reducible refine Chg.drewN ?_ _) | (with_reducible refine Chg.drew ?_) | (with_reducible refine Chg.alloc ?_ _) | (with_reducible refine Chg.setCell ?_ (by first | (left; simp [DevH.foot]; done) | (right; simp; done) | (right; simp; omega)) _))))).mono ?_; rintro e w' ⟨rfl, rfl⟩)
    | (go_at_call 35; refine ((HLO _).out (by (repeat (first | (with_reducible exact Chg.refl _ _) | (with_reducible assumption) | (with_reducible refine Chg.drewN ?_ _) | (with_reducible refine Chg.drew ?_) | (with_reducible refine Chg.alloc ?_ _) | (with_reducible refine Chg.setCell ?_ (by first | (left; simp [DevH.foot]; done) | (right; simp; done) | (right; simp; omega)) _))))).mono ?_; rintro e w' ⟨rfl, rfl⟩))
  have hjb := Blk.new w tJn #[.pointer (some ⟨h.d, 0, none⟩), .int .i64 D.losses, .int .i64 first, .int .i64 pages, .int .u64 0, .int .i64 0, .map none]
  have HBG := Lib.hid (begin_calls (t := ⟨w.heap.size, 0⟩) hjb gen)
  clear hjb HPG HPW HLO
  refine HBG.out.mono ?_
  rintro e w1 ⟨rfl, hb1, hm1, hc1⟩
  simp only [World.size_alloc] at hb1 hm1
  have HC1 : Hid (Chg No w w1) := ((Chg.refl No w).alloc _).then hc1 (fun i hi e => by have e' : i = w.heap.size := e; omega)
  have HD1 : Hid (DevAt w1 h D) := ((show DevN w.heap.size w h D from HD.out).chgNo HC1.out).at_
  have HJ1 : Hid (JnAt w1 h ⟨w.heap.size, w.heap.size + 1⟩ { losses := D.losses, first := first, pages := pages, gen := gen, used := 0, marks := [] }) :=
    ⟨hb1, hm1, by show first + pages ≤ 4096; omega, Nat.zero_le _, hg, by have := foot_size HD.out (k := h.M) (.inr (.inr rfl)); show w.heap.size + 1 ≠ h.M; omega⟩
  obtain ⟨t, ht⟩ : ∃ t : JnH, t = ⟨w.heap.size, w.heap.size + 1⟩ := ⟨_, rfl⟩
  rw [← ht] at HJ1
  have HTJ : Hid (w.heap.size = t.J) := by show _ = _; rw [ht]
  have HTO : Hid (∀ k, t.own k → w.heap.size ≤ k) := fun k hk => by rw [ht] at hk; rcases hk with rfl | rfl; exact Nat.le_refl _; exact Nat.le_succ _
  obtain ⟨fin, hfin⟩ : ∃ fin, fin = jnRest D first gen pages 0 [] := ⟨_, rfl⟩
  have HFIN := Lib.hid hfin
  have HOPN : Hid (Jn.opened D first pages gen = { losses := D.losses, first := first, pages := pages, gen := gen, used := fin.1, marks := fin.2 }) := by show _ = _; rw [hfin]; rfl
  rw [HTJ.out]
  clear hb1 hm1 hc1 ht hfin HBG
  go_wp2
  go_loopg [11, 12] pages (fun gk v11 v12 wr => ∃ (u : Nat) (ms : Marks), gk = pages - u ∧ u ≤ pages ∧ Hid (JnAt wr h t { losses := D.losses, first := first, pages := pages, gen := gen, used := u, marks := ms } ∧ DevAt wr h D ∧ Chg h.foot w wr ∧ fin = jnRest D first gen pages u ms))
  case atStart => exact ⟨0, [], rfl, Nat.zero_le _, HJ1.out, HD1.out, HC1.out.mono (fun _ _ h => h.elim), HFIN.out⟩
  case round =>
    obtain ⟨u, ms, rfl, hu, H⟩ := hrel
    have d5 := H.out.1.box.cell 5
    simp at d5
    have HJR := Lib.hid H.out.1
    have HDR := Lib.hid H.out.2.1
    have HCR := Lib.hid H.out.2.2.1
    have HFR := Lib.hid H.out.2.2.2
    clear H
    by_cases hlt : u < pages
    · have hup : (u : Int) < (pages : Int) := by omega
      have ea : IntKind.i64.wrap ((first : Int) + (u : Int)) = (first : Int) + (u : Int) := IntWalk.i64_in _ (by omega)
      have ef : ((first + u : Nat) : Int) = (first : Int) + (u : Int) := by omega
      have hst := jnRest_step D first gen pages u ms hlt
      rw [← HFR.out] at hst
      have HRD := Lib.hid (read_calls (show DevN wr.heap.size wr h D from HDR.out) ((first + u : Nat) : Int))
      have hon := on_read (D := D) HOF.out (k := first + u) (by have := HNN.out; omega)
      obtain ⟨re, hre⟩ : ∃ re, re = D.readE ((first + u : Nat) : Int) := ⟨_, rfl⟩
      obtain ⟨rb, hrb⟩ : ∃ rb, rb = D.read ((first + u : Nat) : Int) := ⟨_, rfl⟩
      have hful : re = 0 → rb.length = 384 := fun h0 => by
        rw [hre] at h0
        rw [hrb]
        exact read_full HDR.out (by have := HNN.out; omega) HOF.out h0
      rw [← hre, ← hrb, ef] at HRD
      rw [← hre, ← hrb] at hst hon
      have HST := Lib.hid hst
      have HFU := Lib.hid hful
      have hlt2 := Lib.hid hlt
      obtain ⟨hor, _⟩ := hon
      clear hst hre hrb ef hful hlt
      go_wp2_with fail
      refine HRD.out.mono ?_
      rintro e w3 ⟨v3, rfl, ho3, hd3, hc3⟩
      have HD3 : Hid (DevAt w3 h D) := hd3.at_
      have HJ3 := Lib.hid (HJR.out.foot (show DevN wr.heap.size wr h D from HDR.out) hc3)
      have HC3 := Lib.hid (HCR.out.trans hc3)
      obtain ⟨A3, c3, rfl, hnc3, hr3⟩ := own_slice ho3
      rw [Nat.mul_one] at hr3
      have HR3 := Lib.hid hr3
      clear hd3 hc3 ho3 hr3 HRD d5
      rcases hor with rfl | rfl | rfl
      · have hlen := HFU.out rfl
        have HTR := Lib.hid (tread_calls A3 c3 rb gen w3 (by have := HR3.out; rw [hlen] at this; exact this) (by omega) hg)
        have HST2 : Hid (fin = if jnForm rb gen then jnRest D first gen pages (u + 1) (note ms (jnL rb gen)) else (u, ms)) := by
          show _ = _
          rw [HST.out, if_neg (by decide), if_pos rfl, jnRead_form]
          cases jnForm rb gen <;> rfl
        have hl23 := jnL_len rb gen
        obtain ⟨jl, hjl⟩ : ∃ jl, jl = jnL rb gen := ⟨_, rfl⟩
        obtain ⟨jf, hjf⟩ : ∃ jf, jf = jnForm rb gen := ⟨_, rfl⟩
        rw [← hjl, ← hjf] at HTR HST2
        rw [← hjl] at hl23
        rw [hlen]
        clear hjl hjf HST
        go_wp2_with fail
        refine HTR.out.mono ?_
        rintro e w4 ⟨v4, rfl, ho4, hc4⟩
        have HJ4 := Lib.hid (HJ3.out.chgNo hc4)
        have HD4 : Hid (DevAt w4 h D) := ((show DevN w3.heap.size w3 h D from HD3.out).chgNo hc4).at_
        have HC4 : Hid (Chg h.foot w w4) := HC3.out.trans (hc4.mono (fun _ _ h => h.elim))
        obtain ⟨A4, c4, rfl, hnc4, hr4⟩ := own_slice ho4
        have HR4 := Lib.hid hr4
        clear hc4 ho4 hr4 HTR
        cases jf with
        | false =>
          have hs : fin = (u, ms) := by rw [HST2.out]; rfl
          have HJ3 := HJ4
          have HD3 := HD4
          have HC3 := HC4
          have HS := Lib.hid hs
          clear hs HFR
          go_wp2
          go_ret2
          refine ⟨t, rfl, ?_, HD3.out, HTO.out, HC3.out⟩
          rw [HOPN.out, HS.out]
          exact HJ3.out
        | true =>
          have HS : Hid (fin = jnRest D first gen pages (u + 1) (note ms jl)) := by show _ = _; rw [HST2.out]; rfl
          have HNT := Lib.hid (note_calls HJ4.out A4 jl.length c4 jl tMark rfl HR4.out (by omega))
          go_wp2_with fail
          refine HNT.out.mono ?_
          rintro e w5 ⟨rfl, hj5, hc5⟩
          have HJ5 := Lib.hid hj5
          have HD5 : Hid (DevAt w5 h D) := ((show DevN w4.heap.size w4 h _ from HD4.out).chg hc5 (fun e => by obtain ⟨a, b, c, e', hb⟩ := HD4.out.box; exact HJ4.out.map.ne_blk hb e.symm) (fun e => by obtain ⟨ps, hb, _⟩ := HD4.out.row; exact HJ4.out.map.ne_blk hb e.symm) (fun e => HJ4.out.far e.symm) (fun g cs T _ hT hb e => by subst e; exact HJ4.out.map.ne_blk hb rfl)).at_
          have HC5 : Hid (Chg h.foot w w5) := HC4.out.then hc5 (fun i hi e => by have := HTO.out i (.inr e); omega)
          clear hj5 hc5 HNT
          have d5 := HJ5.out.box.cell 5
          have f5 := HJ5.out.box.frozen 5
          simp at d5
          have hu1 : IntKind.i64.wrap ((u : Int) + 1) = (u : Int) + 1 := IntWalk.i64_in _ (by omega)
          have hb := HJ5.out.bump hlt2.out
          have HJ9 := Lib.hid hb.1
          have HD9 : Hid (DevAt (w5.setCell ⟨t.J, 5, none⟩ (.int .i64 ((u : Int) + 1))) h D) := (dev_one (show DevN w5.heap.size w5 h D from HD5.out) HJ5.out.box hb.2 (by decide) (by decide) (by decide) (by decide)).at_
          have HC9 : Hid (Chg h.foot w (w5.setCell ⟨t.J, 5, none⟩ (.int .i64 ((u : Int) + 1)))) := HC5.out.then hb.2 (fun i hi e => by have := HTO.out i (.inl e); omega)
          clear hb
          go_wp2
          go_roundg (pages - (u + 1))
          case measure => have := hlt2.out; omega
          case rel => exact ⟨u + 1, (note ms jl), rfl, hlt2.out, HJ9.out, HD9.out, HC9.out, HS.out⟩
      · have hs : fin = (u, ms) := by rw [HST.out]; rfl
        have HS := Lib.hid hs
        clear hs HFR
        go_wp2
        go_ret2
        refine ⟨t, rfl, ?_, HD3.out, HTO.out, HC3.out⟩
        rw [HOPN.out, HS.out]
        exact HJ3.out
      · have HS : Hid (fin = jnRest D first gen pages (u + 1) ms) := by show _ = _; rw [HST.out]; rfl
        have d5 := HJ3.out.box.cell 5
        have f5 := HJ3.out.box.frozen 5
        simp at d5
        have hu1 : IntKind.i64.wrap ((u : Int) + 1) = (u : Int) + 1 := IntWalk.i64_in _ (by omega)
        have hb := HJ3.out.bump hlt2.out
        have HJ9 := Lib.hid hb.1
        have HD9 : Hid (DevAt (w3.setCell ⟨t.J, 5, none⟩ (.int .i64 ((u : Int) + 1))) h D) := (dev_one (show DevN w3.heap.size w3 h D from HD3.out) HJ3.out.box hb.2 (by decide) (by decide) (by decide) (by decide)).at_
        have HC9 : Hid (Chg h.foot w (w3.setCell ⟨t.J, 5, none⟩ (.int .i64 ((u : Int) + 1)))) := HC3.out.then hb.2 (fun i hi e => by have := HTO.out i (.inl e); omega)
        clear hb
        go_wp2
        go_roundg (pages - (u + 1))
        case measure => have := hlt2.out; omega
        case rel => exact ⟨u + 1, ms, rfl, hlt2.out, HJ9.out, HD9.out, HC9.out, HS.out⟩
    · obtain rfl : u = pages := by omega
      have hs : fin = (u, ms) := by rw [HFR.out, jnRest_end _ _ _ _ _ _ (Nat.le_refl _)]
      have HJ3 := HJR
      have HD3 := HDR
      have HC3 := HCR
      obtain ⟨w3, hw3⟩ : ∃ w3, w3 = wr := ⟨_, rfl⟩
      rw [← hw3] at HJ3 HD3 HC3 d5 ⊢
      clear hw3
      have HS := Lib.hid hs
      clear hs HFR
      go_wp2
      go_ret2
      refine ⟨t, rfl, ?_, HD3.out, HTO.out, HC3.out⟩
      rw [HOPN.out, HS.out]
      exact HJ3.out
end Go.Proofs.YtplpbbdakihnfaaGreat
end
