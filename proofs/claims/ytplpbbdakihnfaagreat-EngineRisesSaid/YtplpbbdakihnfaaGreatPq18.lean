/- Packed texts: RegH. -/
import Derived.Test.YtplpbbdakihnfaaGreatPq06
set_option linter.unusedSimpArgs false
set_option linter.unusedVariables false
section
namespace Go.Proofs.YtplpbbdakihnfaaGreat
open Go.RowKit
attribute [local go_sem ↓] Go.wp_at_zero Go.wp_at_succ
def pickT (ks : Keys) (pl : Nat → Pl) (l : List Item) (k : Nat) : List Item := ((l.zipIdx.take k).filter fun p => decide (aget ks p.1.key = some (pl p.2))).map (·.1)
theorem pickT_succ (ks : Keys) (pl : Nat → Pl) {l : List Item} {k : Nat} {x : Item} (h : l[k]? = some x) : pickT ks pl l (k + 1) = pickT ks pl l k ++ (if aget ks x.key = some (pl k) then [x] else []) := by
  unfold pickT
  rw [List.take_add_one, zip_get h, Option.toList, List.filter_append, List.map_append]
  congr 1
  simp only [List.filter_cons, List.filter_nil, decide_eq_true_eq]
  split <;> rfl
theorem pickT_all (ks : Keys) (pl : Nat → Pl) (l : List Item) : pickT ks pl l l.length = pick ks pl l := by
  unfold pickT pick
  rw [List.take_of_length_le (by simp)]
theorem rd_item2d (w : World) (o : Obj) (x : Item) : Rd (((w.alloc o).alloc (.cells (itc x).toArray tItem)).drew) tItem (some ⟨w.heap.size + 1, 0, none⟩) (1 * 5) (itc x) := rd_item2 w o x
section
variable {w : World} {h : DevH} {t : LgH} {G : Lg}
set_option maxRecDepth 100000 in
set_option maxHeartbeats 8000000 in
theorem items_calls (hl : LgAt w h t G) (h20 : G.regs.length < 20) (hbn : ∀ i ∈ byNum G.regs, i < G.regs.length) (hbl : (byNum G.regs).length ≤ 20) :
    Calls Tryz.prog 58 #[.pointer (some ⟨t.L, 0, none⟩)] w fun e w' => ∃ v, e = .returned v ∧ w'.ownsRow w.heap.size tItem 5 v G.items.length (its G.items) ∧ Chg No w w' := by
  have HBN := Lib.hid (byNumber_calls hl h20)
  have HL := Lib.hid hl
  obtain ⟨bn, hbnn⟩ : ∃ bn, bn = byNum G.regs := ⟨_, rfl⟩
  have HI : Hid (G.items = bn.flatMap (fun i => pick G.keys (fun at_ => (⟨false, i, at_⟩ : Pl)) (rl G.regs i)) ++ pick G.keys (fun at_ => (⟨true, 0, at_⟩ : Pl)) G.opn) := by show _ = _; rw [hbnn]; rfl
  rw [← hbnn] at HBN hbn hbl
  have HBI := Lib.hid hbn
  have d3 := hl.box.cell 3
  have d4 := hl.box.cell 4
  simp at d3 d4
  obtain ⟨r, ro, rc, hR, hrg, hrow⟩ := hl.row
  obtain ⟨rfl, _, _, _⟩ := hl.rowAt hR
  have HRR := Lib.hid hR
  have hmo := hl.ok.len
  obtain ⟨Ao, co, hO, hnco, hrdo⟩ := hl.openAs
  obtain ⟨lo, hlo⟩ : ∃ lo, lo = G.opn := ⟨_, rfl⟩
  rw [← hlo] at hO hnco hrdo HI hmo
  obtain ⟨no, hno⟩ : ∃ no, no = lo.length := ⟨_, rfl⟩
  have HNO2 := Lib.hid hno
  rw [← hno] at hO hnco hrdo hmo
  rw [hO] at d4
  rw [hR] at d3
  have HRDO := Lib.hid hrdo
  have HD : Hid (∀ W, Chg No w W → W.cell? ⟨t.L, 3, none⟩ = some (.slice (some ⟨r, 0, none⟩) G.regs.length rc) ∧ W.cell? ⟨t.L, 4, none⟩ = some (.slice Ao no co)) := fun W hc => ⟨(hc.toBelow.cell (p := ⟨t.L, 3, none⟩) (hl.lt _ hl.ownL)).trans d3, (hc.toBelow.cell (p := ⟨t.L, 4, none⟩) (hl.lt _ hl.ownL)).trans d4⟩
  clear hl hbn hbnn hR hrow hO hrdo hlo hno d3 d4
  go_enter Tryz.func58, Tryz.ntmps58
  go_wp2_with fail
  refine HBN.out.mono ?_
  rintro e w1 ⟨vb, rfl, hob, hc1⟩
  obtain ⟨Ab, cb, rfl, hncb, hrb⟩ := own_slice hob
  have HRB : Hid (Rd w1 tInt1 Ab bn.length (ints bn)) := by show Rd _ _ _ _ _; simpa using hrb
  have HC1 := Lib.hid hc1
  obtain ⟨nb, hnb⟩ : ∃ nb, nb = bn.length := ⟨_, rfl⟩
  rw [← hnb] at HRB hbl ⊢
  have HNB := Lib.hid hnb
  clear hob hc1 hrb hnb HBN
  go_wp2
  go_loopg [3, 17] nb (fun gk vv vi wr => ∃ (j : Nat) (v3 : Value), v3 = vv ∧ gk = nb - j ∧ j ≤ nb ∧ vi = .int .i64 j ∧
    Hid (wr.ownsRow w.heap.size tItem 5 v3 ((bn.take j).flatMap (fun i => pick G.keys (fun at_ => (⟨false, i, at_⟩ : Pl)) (rl G.regs i))).length (its ((bn.take j).flatMap (fun i => pick G.keys (fun at_ => (⟨false, i, at_⟩ : Pl)) (rl G.regs i)))) ∧ Chg No w wr ∧ Rd wr tInt1 Ab nb (ints bn) ∧ ((bn.take j).flatMap (fun i => pick G.keys (fun at_ => (⟨false, i, at_⟩ : Pl)) (rl G.regs i))).length ≤ 1000 * j))
  case atStart => exact ⟨0, _, rfl, rfl, Nat.zero_le _, rfl, by simpa [its] using World.ownsRow_nil _ _ _ _, HC1.out, HRB.out, by simp⟩
  case round =>
    obtain ⟨j, v3, rfl, rfl, hj, rfl, H⟩ := hrel
    by_cases hjl : j < nb
    · obtain ⟨i, hi⟩ : ∃ i, bn[j]? = some i := ⟨_, List.getElem?_eq_getElem (by rw [← HNB.out]; exact hjl)⟩
      have hil := HBI.out i (List.mem_of_getElem? hi)
      obtain ⟨S, hS⟩ : ∃ S, G.regs[i]? = some S := ⟨_, List.getElem?_eq_getElem hil⟩
      have hrl : rl G.regs i = S.l := by unfold rl; rw [List.getD_eq_getElem?_getD, hS]; rfl
      obtain ⟨vs, e0, e1, hsl⟩ := HL.out.rowCell HRR.out i S hS
      obtain ⟨Ar, cr, rfl, hncr, hrdr, _⟩ := hsl
      have hmax := (HL.out.ok.small S (List.mem_of_getElem? hS)).1
      have hfm : (bn.take (j + 1)).flatMap (fun i => pick G.keys (fun at_ => (⟨false, i, at_⟩ : Pl)) (rl G.regs i)) = (bn.take j).flatMap (fun i => pick G.keys (fun at_ => (⟨false, i, at_⟩ : Pl)) (rl G.regs i)) ++ pick G.keys (fun at_ => (⟨false, i, at_⟩ : Pl)) S.l := by
        rw [List.take_add_one, hi, Option.toList, List.flatMap_append]
        simp [hrl]
      obtain ⟨pre, hpre⟩ : ∃ pre, pre = (bn.take j).flatMap (fun i => pick G.keys (fun at_ => (⟨false, i, at_⟩ : Pl)) (rl G.regs i)) := ⟨_, rfl⟩
      rw [← hpre] at H hfm
      have hpl2 := H.out.2.2.2
      obtain ⟨lr, hlr⟩ : ∃ lr, lr = S.l := ⟨_, rfl⟩
      rw [← hlr] at e1 hncr hrdr hmax hfm
      obtain ⟨nr, hnr⟩ : ∃ nr, nr = lr.length := ⟨_, rfl⟩
      have HNR := Lib.hid hnr
      rw [← hnr] at e1 hncr hrdr hmax
      have HRDR := Lib.hid hrdr
      have HFM := Lib.hid hfm
      have ⟨d3, _⟩ := HD.out wr H.out.2.1
      have hii : (i : Int) < (G.regs.length : Int) := by omega
      have hji : (j : Int) < (nb : Int) := by omega
      obtain ⟨gb, ob, eb, hgb, hcb⟩ := H.out.2.2.1.at_ (j := j) (by omega)
      subst eb
      have cb0 : wr.cell? ⟨gb, ob + j, none⟩ = some (.int .i64 (i : Int)) := hcb j _ (ints_get hi)
      have e1' : wr.cell? ⟨r, i * 2 + 1, none⟩ = some (.slice Ar nr cr) := (H.out.2.1.toBelow.cell (p := ⟨r, i * 2 + 1, none⟩) hrg).trans e1
      have HWO : Hid (wr.ownsRow w.heap.size tItem 5 v3 pre.length (its pre) ∧ Chg No w wr ∧ Rd wr tInt1 _ nb (ints bn)) := ⟨H.out.1, H.out.2.1, H.out.2.2.1⟩
      have HII := Lib.hid hil
      obtain ⟨wo, rfl⟩ : ∃ wo : World, wo = wr := ⟨_, rfl⟩
      clear hi hil hS hrl hrdr hpre hlr hnr hfm hcb H e0 e1 HRB hgb
      go_wp2
      go_loopg [3, 30] nr (fun gk vv vi wr => ∃ (k : Nat) (v3 : Value), v3 = vv ∧ gk = nr - k ∧ k ≤ nr ∧ vi = .int .i64 k ∧
        Hid (wr.ownsRow w.heap.size tItem 5 v3 (pre ++ pickT G.keys (fun at_ => (⟨false, i, at_⟩ : Pl)) lr k).length (its (pre ++ pickT G.keys (fun at_ => (⟨false, i, at_⟩ : Pl)) lr k)) ∧ Chg No w wr ∧ (pre ++ pickT G.keys (fun at_ => (⟨false, i, at_⟩ : Pl)) lr k).length ≤ pre.length + k ∧ Rd wr tInt1 (some ⟨gb, ob, none⟩) nb (ints bn)))
      case atStart => exact ⟨0, v3, rfl, rfl, Nat.zero_le _, rfl, ⟨by simpa [pickT] using HWO.out.1, HWO.out.2.1, by simp [pickT], HWO.out.2.2⟩⟩
      case round =>
        obtain ⟨k, v3, rfl, rfl, hk, rfl, H⟩ := hrel
        by_cases hlt : k < nr
        · obtain ⟨x, hx⟩ : ∃ x, lr[k]? = some x := ⟨_, List.getElem?_eq_getElem (by rw [← HNR.out]; exact hlt)⟩
          have hsucc := pickT_succ G.keys (fun at_ => (⟨false, i, at_⟩ : Pl)) hx
          obtain ⟨acc, hacc⟩ : ∃ acc, pre ++ pickT G.keys (fun at_ => (⟨false, i, at_⟩ : Pl)) lr k = acc := ⟨_, rfl⟩
          rw [hacc] at H
          have HSUC : Hid (pre ++ pickT G.keys (fun at_ => (⟨false, i, at_⟩ : Pl)) lr (k + 1) = acc ++ (if aget G.keys x.key = some ((fun at_ => (⟨false, i, at_⟩ : Pl)) k) then [x] else [])) := by show _ = _; rw [hsucc, ← List.append_assoc, hacc]
          obtain ⟨g, off, c', he', hg, c0, c1, c2, c3, c4⟩ := SlAt.item (w := wr) (t := ⟨0, 0, .slice none 0 0, .slice none 0 0, fun _ => True⟩) (v := .slice Ar lr.length cr) ⟨Ar, cr, rfl, by rw [← HNR.out]; exact hncr, (by have := HRDR.out; rw [HNR.out] at this; exact this.chg H.out.2.1 (fun _ _ _ _ h => h)), fun _ _ _ _ => ⟨trivial, by simp [Value.ownBlock]⟩⟩ hx
          obtain ⟨rfl, _, _⟩ : Ar = some ⟨g, off, none⟩ ∧ True ∧ True := by injection he' with e1 e2 e3; exact ⟨e1, trivial, trivial⟩
          have hki : (k : Int) < (nr : Int) := by omega
          have hal := H.out.2.2.1
          have hwz0 : w.heap.size ≤ wr.heap.size := H.out.2.1.size
          have HX := Lib.hid hx
          clear hsucc hacc hx he'
          go_wp2_with fail
          refine wp_forget (fun W => Chg No wr W ∧ Blk W wr.heap.size tItem (itc x).toArray) ⟨by (repeat (first | (with_reducible exact Chg.refl _ _) | (with_reducible assumption) | (with_reducible refine Chg.drewN ?_ _) | (with_reducible refine Chg.drew ?_) | (with_reducible refine Chg.alloc ?_ _) | (with_reducible refine Chg.setCell ?_ (by first | (left; simp [DevH.foot]; done) | (right; simp; done) | (right; simp; omega)) _))), Blk.new _ _ _⟩ (fun W hW => ?_)
          obtain ⟨hcW, hbW⟩ := hW
          obtain ⟨ga, hga⟩ : ∃ ga, wr.heap.size = ga := ⟨_, rfl⟩
          rw [hga] at hbW ⊢
          have hlW := HL.out.chgNo (H.out.2.1.trans hcW)
          have hk0 := (hlW.chgNo ((Chg.refl No W).drew)).look x.key true
          have hk1 := fun o => (hlW.chgNo (((Chg.refl No W).alloc o).drew)).look x.key true
          have hLW := hlW.lt _ hlW.ownL
          have d7 := hlW.box.cell 7
          simp at d7
          have a0 := hbW.cell 0
          have a1 := hbW.cell 1
          have a2 := hbW.cell 2
          have a3 := hbW.cell 3
          have a4 := hbW.cell 4
          simp [itc] at a0 a1 a2 a3 a4
          simp only [if_true, plv] at hk0 hk1
          have hdec : (aget G.keys x.key = some ((fun at_ => (⟨false, i, at_⟩ : Pl)) k)) = (G.pl x.key = (fun at_ => (⟨false, i, at_⟩ : Pl)) k ∧ G.has x.key = true) := by
            unfold Lg.pl Lg.has
            cases aget G.keys x.key with
            | none => simp
            | some p => simp
          try simp only at hdec
          have he : ∀ W, (binOp .eql tPlace (.agg #[.bool (G.pl x.key).op, .int .i64 (G.pl x.key).rg, .int .i64 (G.pl x.key).ix]) (.agg #[.bool false, .int .i64 i, .int .i64 k])).run Tryz.prog W = .ok (.bool (decide (G.pl x.key = (fun at_ => (⟨false, i, at_⟩ : Pl)) k))) W := fun W => run_eql_pl' (G.pl x.key) false i k W
          have hgal : ga < W.heap.size := hbW.lt
          have HO1 : Hid (W.ownsRow w.heap.size tItem 5 v3 acc.length (its acc)) := own_chg H.out.1 hcW (fun _ _ h => h)
          have HDEC := Lib.hid hdec
          have HCW : Hid (Chg No w W) := H.out.2.1.trans hcW
          have HCO : Hid (Rd W tInt1 (some ⟨gb, ob, none⟩) nb (ints bn)) := H.out.2.2.2.chg hcW (fun _ _ _ _ h => h)
          have HBW := Lib.hid hbW
          have hwW : w.heap.size ≤ W.heap.size := HCW.out.size
          obtain ⟨q, hq⟩ : ∃ q, q = G.pl x.key := ⟨_, rfl⟩
          rw [← hq] at hk0 hk1 he HDEC
          clear hlW hdec hcW hbW hga hq c0 c1 c2 c3 c4
          cases hhas : G.has x.key with
          | false =>
            have HNO : Hid (pre ++ pickT G.keys (fun at_ => (⟨false, i, at_⟩ : Pl)) lr (k + 1) = acc) := by
              show _ = _
              rw [HSUC.out, if_neg (by (try simp only); rw [HDEC.out, hhas]; exact fun hh => by cases hh.2), List.append_nil]
            rw [hhas] at hk0 hk1
            clear hhas he
            go_wp2_with fail
            go_region
            all_goals
              go_wp2
              go_roundg (nr - (k + 1))
              case measure => omega
              case rel =>
                refine ⟨k + 1, _, rfl, rfl, by omega, by go_num, ?_⟩
                rw [HNO.out]
                exact ⟨own_chg HO1.out (by (repeat (first | (with_reducible exact Chg.refl _ _) | (with_reducible assumption) | (with_reducible refine Chg.drewN ?_ _) | (with_reducible refine Chg.drew ?_) | (with_reducible refine Chg.alloc ?_ _) | (with_reducible refine Chg.setCell ?_ (by first | (left; simp [DevH.foot]; done) | (right; simp; done) | (right; simp; omega)) _))) : Chg No W _) (fun _ _ h => h), HCW.out.trans (by (repeat (first | (with_reducible exact Chg.refl _ _) | (with_reducible assumption) | (with_reducible refine Chg.drewN ?_ _) | (with_reducible refine Chg.drew ?_) | (with_reducible refine Chg.alloc ?_ _) | (with_reducible refine Chg.setCell ?_ (by first | (left; simp [DevH.foot]; done) | (right; simp; done) | (right; simp; omega)) _)))), by omega, HCO.out.chg (by (repeat (first | (with_reducible exact Chg.refl _ _) | (with_reducible assumption) | (with_reducible refine Chg.drewN ?_ _) | (with_reducible refine Chg.drew ?_) | (with_reducible refine Chg.alloc ?_ _) | (with_reducible refine Chg.setCell ?_ (by first | (left; simp [DevH.foot]; done) | (right; simp; done) | (right; simp; omega)) _))) : Chg No W _) (fun _ _ _ _ h => h)⟩
          | true =>
            by_cases hpl : q = (fun at_ => (⟨false, i, at_⟩ : Pl)) k
            · have he1 : ∀ W, (binOp .eql tPlace (.agg #[.bool q.op, .int .i64 q.rg, .int .i64 q.ix]) (.agg #[.bool false, .int .i64 i, .int .i64 k])).run Tryz.prog W = .ok (.bool true) W := fun W => by rw [he W, decide_eq_true hpl]
              have HYES : Hid (pre ++ pickT G.keys (fun at_ => (⟨false, i, at_⟩ : Pl)) lr (k + 1) = acc ++ [x]) := by
                show _ = _
                rw [HSUC.out, if_pos (by (try simp only); rw [HDEC.out]; exact ⟨hpl, hhas⟩)]
              rw [hhas] at hk0 hk1
              clear hhas he hpl
              go_wp2_with fail
              go_region
              all_goals
                go_wp2_with (first
                  | (at_builtin; go_loud (refine wpList_app _ rfl (.tmp 53) (.tmp 55) tItems rfl tItem Tryz.underlying46 ti_item rfl (by omega) w.heap.size _ acc.length (its acc) rfl (by first | exact ((HO1.out.alloc _).alloc _) | exact (((HO1.out.alloc _).drewN _).alloc _) | exact (own_chg HO1.out (by (repeat (first | (with_reducible exact Chg.refl _ _) | (with_reducible assumption) | (with_reducible refine Chg.drewN ?_ _) | (with_reducible refine Chg.drew ?_) | (with_reducible refine Chg.alloc ?_ _) | (with_reducible refine Chg.setCell ?_ (by first | (left; simp [DevH.foot]; done) | (right; simp; done) | (right; simp; omega)) _))) : Chg No W _) (fun _ _ h => h))) tItem _ 1 1 (itc x) rfl (by first | exact rd_item _ x | exact rd_item2 _ _ x | exact rd_item2d _ _ x) (itc_one_cell x) (by simp only [maxLen]; omega) (by omega) (by simp; omega) ?_); intro v2 w2 ho2 hg2 hb2; have HO2 := Lib.hid ho2; have HG2 : Hid (Chg (fun j => Value.ownBlock v3 = some j) W w2) := Chg.grown (by (repeat (first | (with_reducible exact Chg.refl _ _) | (with_reducible assumption) | (with_reducible refine Chg.drewN ?_ _) | (with_reducible refine Chg.drew ?_) | (with_reducible refine Chg.alloc ?_ _) | (with_reducible refine Chg.setCell ?_ (by first | (left; simp [DevH.foot]; done) | (right; simp; done) | (right; simp; omega)) _)))) hg2 (fun j hj => .inl hj); clear ho2 hg2 hb2))
                go_roundg (nr - (k + 1))
                case measure => omega
                case rel =>
                  refine ⟨k + 1, _, rfl, rfl, by omega, by go_num, ?_⟩
                  rw [HYES.out]
                  refine ⟨?_, HCW.out.then HG2.out (fun j hj hS => by have := own_new HO1.out j hS; omega), by simp; omega, HCO.out.chg HG2.out (fun g cur fz hg hS => own_other HO1.out hg (by decide) hS)⟩
                  rw [List.length_append, its_append, its_one]
                  exact HO2.out
            · have he1 : ∀ W, (binOp .eql tPlace (.agg #[.bool q.op, .int .i64 q.rg, .int .i64 q.ix]) (.agg #[.bool false, .int .i64 i, .int .i64 k])).run Tryz.prog W = .ok (.bool false) W := fun W => by rw [he W, decide_eq_false hpl]
              have HNO : Hid (pre ++ pickT G.keys (fun at_ => (⟨false, i, at_⟩ : Pl)) lr (k + 1) = acc) := by
                show _ = _
                rw [HSUC.out, if_neg (by (try simp only); rw [HDEC.out]; exact fun hh => hpl hh.1), List.append_nil]
              rw [hhas] at hk0 hk1
              clear hhas he hpl
              go_wp2_with fail
              go_region
              all_goals
                go_wp2
                go_roundg (nr - (k + 1))
                case measure => omega
                case rel =>
                  refine ⟨k + 1, _, rfl, rfl, by omega, by go_num, ?_⟩
                  rw [HNO.out]
                  exact ⟨own_chg HO1.out (by (repeat (first | (with_reducible exact Chg.refl _ _) | (with_reducible assumption) | (with_reducible refine Chg.drewN ?_ _) | (with_reducible refine Chg.drew ?_) | (with_reducible refine Chg.alloc ?_ _) | (with_reducible refine Chg.setCell ?_ (by first | (left; simp [DevH.foot]; done) | (right; simp; done) | (right; simp; omega)) _))) : Chg No W _) (fun _ _ h => h), HCW.out.trans (by (repeat (first | (with_reducible exact Chg.refl _ _) | (with_reducible assumption) | (with_reducible refine Chg.drewN ?_ _) | (with_reducible refine Chg.drew ?_) | (with_reducible refine Chg.alloc ?_ _) | (with_reducible refine Chg.setCell ?_ (by first | (left; simp [DevH.foot]; done) | (right; simp; done) | (right; simp; omega)) _)))), by omega, HCO.out.chg (by (repeat (first | (with_reducible exact Chg.refl _ _) | (with_reducible assumption) | (with_reducible refine Chg.drewN ?_ _) | (with_reducible refine Chg.drew ?_) | (with_reducible refine Chg.alloc ?_ _) | (with_reducible refine Chg.setCell ?_ (by first | (left; simp [DevH.foot]; done) | (right; simp; done) | (right; simp; omega)) _))) : Chg No W _) (fun _ _ _ _ h => h)⟩
        · obtain rfl : k = nr := by omega
          have hall := pickT_all G.keys (fun at_ => (⟨false, i, at_⟩ : Pl)) lr
          rw [← HNR.out] at hall
          rw [hall] at H
          have HE : Hid ((bn.take (j + 1)).flatMap (fun i => pick G.keys (fun at_ => (⟨false, i, at_⟩ : Pl)) (rl G.regs i)) = pre ++ pick G.keys (fun at_ => (⟨false, i, at_⟩ : Pl)) lr) := HFM
          clear hall
          go_wp2
          go_roundg (nb - (j + 1))
          case measure => omega
          case rel =>
            refine ⟨j + 1, _, rfl, rfl, by omega, by go_num, ?_⟩
            rw [HE.out]
            exact ⟨H.out.1, H.out.2.1, H.out.2.2.2, by have := H.out.2.2.1; omega⟩
    · obtain rfl : j = nb := by omega
      rw [List.take_of_length_le (by rw [← HNB.out]; exact Nat.le_refl _)] at H
      obtain ⟨rg, hrg2⟩ : ∃ rg, rg = bn.flatMap (fun i => pick G.keys (fun at_ => (⟨false, i, at_⟩ : Pl)) (rl G.regs i)) := ⟨_, rfl⟩
      rw [← hrg2] at H HI
      have hpl2 := H.out.2.2.2
      have ⟨_, d4⟩ := HD.out wr H.out.2.1
      have HWO : Hid (wr.ownsRow w.heap.size tItem 5 v3 rg.length (its rg) ∧ Chg No w wr ∧ Rd wr tInt1 Ab j (ints bn)) := ⟨H.out.1, H.out.2.1, H.out.2.2.1⟩
      obtain ⟨wo, rfl⟩ : ∃ wo : World, wo = wr := ⟨_, rfl⟩
      clear hjl hrg2 H
      go_wp2
      go_loopg [3, 64] no (fun gk vv vi wr => ∃ (k : Nat) (v3 : Value), v3 = vv ∧ gk = no - k ∧ k ≤ no ∧ vi = .int .i64 k ∧
        Hid (wr.ownsRow w.heap.size tItem 5 v3 (rg ++ pickT G.keys (fun at_ => (⟨true, 0, at_⟩ : Pl)) lo k).length (its (rg ++ pickT G.keys (fun at_ => (⟨true, 0, at_⟩ : Pl)) lo k)) ∧ Chg No w wr ∧ (rg ++ pickT G.keys (fun at_ => (⟨true, 0, at_⟩ : Pl)) lo k).length ≤ rg.length + k ∧ Rd wr tInt1 Ab j (ints bn)))
      case atStart => exact ⟨0, v3, rfl, rfl, Nat.zero_le _, rfl, ⟨by simpa [pickT] using HWO.out.1, HWO.out.2.1, by simp [pickT], HWO.out.2.2⟩⟩
      case round =>
        obtain ⟨k, v3, rfl, rfl, hk, rfl, H⟩ := hrel
        by_cases hlt : k < no
        · obtain ⟨x, hx⟩ : ∃ x, lo[k]? = some x := ⟨_, List.getElem?_eq_getElem (by rw [← HNO2.out]; exact hlt)⟩
          have hsucc := pickT_succ G.keys (fun at_ => (⟨true, 0, at_⟩ : Pl)) hx
          obtain ⟨acc, hacc⟩ : ∃ acc, rg ++ pickT G.keys (fun at_ => (⟨true, 0, at_⟩ : Pl)) lo k = acc := ⟨_, rfl⟩
          rw [hacc] at H
          have HSUC : Hid (rg ++ pickT G.keys (fun at_ => (⟨true, 0, at_⟩ : Pl)) lo (k + 1) = acc ++ (if aget G.keys x.key = some ((fun at_ => (⟨true, 0, at_⟩ : Pl)) k) then [x] else [])) := by show _ = _; rw [hsucc, ← List.append_assoc, hacc]
          obtain ⟨g, off, c', he', hg, c0, c1, c2, c3, c4⟩ := SlAt.item (w := wr) (t := ⟨0, 0, .slice none 0 0, .slice none 0 0, fun _ => True⟩) (v := .slice Ao lo.length co) ⟨Ao, co, rfl, by rw [← HNO2.out]; exact hnco, (by have := HRDO.out; rw [HNO2.out] at this; exact this.chg H.out.2.1 (fun _ _ _ _ h => h)), fun _ _ _ _ => ⟨trivial, by simp [Value.ownBlock]⟩⟩ hx
          obtain ⟨rfl, _, _⟩ : Ao = some ⟨g, off, none⟩ ∧ True ∧ True := by injection he' with e1 e2 e3; exact ⟨e1, trivial, trivial⟩
          have hki : (k : Int) < (no : Int) := by omega
          have hal := H.out.2.2.1
          have hwz0 : w.heap.size ≤ wr.heap.size := H.out.2.1.size
          have HX := Lib.hid hx
          clear hsucc hacc hx he'
          go_wp2_with fail
          refine wp_forget (fun W => Chg No wr W ∧ Blk W wr.heap.size tItem (itc x).toArray) ⟨by (repeat (first | (with_reducible exact Chg.refl _ _) | (with_reducible assumption) | (with_reducible refine Chg.drewN ?_ _) | (with_reducible refine Chg.drew ?_) | (with_reducible refine Chg.alloc ?_ _) | (with_reducible refine Chg.setCell ?_ (by first | (left; simp [DevH.foot]; done) | (right; simp; done) | (right; simp; omega)) _))), Blk.new _ _ _⟩ (fun W hW => ?_)
          obtain ⟨hcW, hbW⟩ := hW
          obtain ⟨ga, hga⟩ : ∃ ga, wr.heap.size = ga := ⟨_, rfl⟩
          rw [hga] at hbW ⊢
          have hlW := HL.out.chgNo (H.out.2.1.trans hcW)
          have hk0 := (hlW.chgNo ((Chg.refl No W).drew)).look x.key true
          have hk1 := fun o => (hlW.chgNo (((Chg.refl No W).alloc o).drew)).look x.key true
          have hLW := hlW.lt _ hlW.ownL
          have d7 := hlW.box.cell 7
          simp at d7
          have a0 := hbW.cell 0
          have a1 := hbW.cell 1
          have a2 := hbW.cell 2
          have a3 := hbW.cell 3
          have a4 := hbW.cell 4
          simp [itc] at a0 a1 a2 a3 a4
          simp only [if_true, plv] at hk0 hk1
          have hdec : (aget G.keys x.key = some ((fun at_ => (⟨true, 0, at_⟩ : Pl)) k)) = (G.pl x.key = (fun at_ => (⟨true, 0, at_⟩ : Pl)) k ∧ G.has x.key = true) := by
            unfold Lg.pl Lg.has
            cases aget G.keys x.key with
            | none => simp
            | some p => simp
          try simp only at hdec
          have he : ∀ W, (binOp .eql tPlace (.agg #[.bool (G.pl x.key).op, .int .i64 (G.pl x.key).rg, .int .i64 (G.pl x.key).ix]) (.agg #[.bool true, .int .i64 0, .int .i64 k])).run Tryz.prog W = .ok (.bool (decide (G.pl x.key = (fun at_ => (⟨true, 0, at_⟩ : Pl)) k))) W := fun W => run_eql_pl' (G.pl x.key) true 0 k W
          have hgal : ga < W.heap.size := hbW.lt
          have HO1 : Hid (W.ownsRow w.heap.size tItem 5 v3 acc.length (its acc)) := own_chg H.out.1 hcW (fun _ _ h => h)
          have HDEC := Lib.hid hdec
          have HCW : Hid (Chg No w W) := H.out.2.1.trans hcW
          have HCO : Hid (Rd W tInt1 Ab j (ints bn)) := H.out.2.2.2.chg hcW (fun _ _ _ _ h => h)
          have HBW := Lib.hid hbW
          have hwW : w.heap.size ≤ W.heap.size := HCW.out.size
          obtain ⟨q, hq⟩ : ∃ q, q = G.pl x.key := ⟨_, rfl⟩
          rw [← hq] at hk0 hk1 he HDEC
          clear hlW hdec hcW hbW hga hq c0 c1 c2 c3 c4
          cases hhas : G.has x.key with
          | false =>
            have HNO : Hid (rg ++ pickT G.keys (fun at_ => (⟨true, 0, at_⟩ : Pl)) lo (k + 1) = acc) := by
              show _ = _
              rw [HSUC.out, if_neg (by (try simp only); rw [HDEC.out, hhas]; exact fun hh => by cases hh.2), List.append_nil]
            rw [hhas] at hk0 hk1
            clear hhas he
            go_wp2_with fail
            go_region
            all_goals
              go_wp2
              go_roundg (no - (k + 1))
              case measure => omega
              case rel =>
                refine ⟨k + 1, _, rfl, rfl, by omega, by go_num, ?_⟩
                rw [HNO.out]
                exact ⟨own_chg HO1.out (by (repeat (first | (with_reducible exact Chg.refl _ _) | (with_reducible assumption) | (with_reducible refine Chg.drewN ?_ _) | (with_reducible refine Chg.drew ?_) | (with_reducible refine Chg.alloc ?_ _) | (with_reducible refine Chg.setCell ?_ (by first | (left; simp [DevH.foot]; done) | (right; simp; done) | (right; simp; omega)) _))) : Chg No W _) (fun _ _ h => h), HCW.out.trans (by (repeat (first | (with_reducible exact Chg.refl _ _) | (with_reducible assumption) | (with_reducible refine Chg.drewN ?_ _) | (with_reducible refine Chg.drew ?_) | (with_reducible refine Chg.alloc ?_ _) | (with_reducible refine Chg.setCell ?_ (by first | (left; simp [DevH.foot]; done) | (right; simp; done) | (right; simp; omega)) _)))), by omega, HCO.out.chg (by (repeat (first | (with_reducible exact Chg.refl _ _) | (with_reducible assumption) | (with_reducible refine Chg.drewN ?_ _) | (with_reducible refine Chg.drew ?_) | (with_reducible refine Chg.alloc ?_ _) | (with_reducible refine Chg.setCell ?_ (by first | (left; simp [DevH.foot]; done) | (right; simp; done) | (right; simp; omega)) _))) : Chg No W _) (fun _ _ _ _ h => h)⟩
          | true =>
            by_cases hpl : q = (fun at_ => (⟨true, 0, at_⟩ : Pl)) k
            · have he1 : ∀ W, (binOp .eql tPlace (.agg #[.bool q.op, .int .i64 q.rg, .int .i64 q.ix]) (.agg #[.bool true, .int .i64 0, .int .i64 k])).run Tryz.prog W = .ok (.bool true) W := fun W => by rw [he W, decide_eq_true hpl]
              have HYES : Hid (rg ++ pickT G.keys (fun at_ => (⟨true, 0, at_⟩ : Pl)) lo (k + 1) = acc ++ [x]) := by
                show _ = _
                rw [HSUC.out, if_pos (by (try simp only); rw [HDEC.out]; exact ⟨hpl, hhas⟩)]
              rw [hhas] at hk0 hk1
              clear hhas he hpl
              go_wp2_with fail
              go_region
              all_goals
                go_wp2_with (first
                  | (at_builtin; go_loud (refine wpList_app _ rfl (.tmp 86) (.tmp 88) tItems rfl tItem Tryz.underlying46 ti_item rfl (by omega) w.heap.size _ acc.length (its acc) rfl (by first | exact ((HO1.out.alloc _).alloc _) | exact (((HO1.out.alloc _).drewN _).alloc _) | exact (own_chg HO1.out (by (repeat (first | (with_reducible exact Chg.refl _ _) | (with_reducible assumption) | (with_reducible refine Chg.drewN ?_ _) | (with_reducible refine Chg.drew ?_) | (with_reducible refine Chg.alloc ?_ _) | (with_reducible refine Chg.setCell ?_ (by first | (left; simp [DevH.foot]; done) | (right; simp; done) | (right; simp; omega)) _))) : Chg No W _) (fun _ _ h => h))) tItem _ 1 1 (itc x) rfl (by first | exact rd_item _ x | exact rd_item2 _ _ x | exact rd_item2d _ _ x) (itc_one_cell x) (by simp only [maxLen]; omega) (by omega) (by simp; omega) ?_); intro v2 w2 ho2 hg2 hb2; have HO2 := Lib.hid ho2; have HG2 : Hid (Chg (fun j => Value.ownBlock v3 = some j) W w2) := Chg.grown (by (repeat (first | (with_reducible exact Chg.refl _ _) | (with_reducible assumption) | (with_reducible refine Chg.drewN ?_ _) | (with_reducible refine Chg.drew ?_) | (with_reducible refine Chg.alloc ?_ _) | (with_reducible refine Chg.setCell ?_ (by first | (left; simp [DevH.foot]; done) | (right; simp; done) | (right; simp; omega)) _)))) hg2 (fun j hj => .inl hj); clear ho2 hg2 hb2))
                go_roundg (no - (k + 1))
                case measure => omega
                case rel =>
                  refine ⟨k + 1, _, rfl, rfl, by omega, by go_num, ?_⟩
                  rw [HYES.out]
                  refine ⟨?_, HCW.out.then HG2.out (fun j hj hS => by have := own_new HO1.out j hS; omega), by simp; omega, HCO.out.chg HG2.out (fun g cur fz hg hS => own_other HO1.out hg (by decide) hS)⟩
                  rw [List.length_append, its_append, its_one]
                  exact HO2.out
            · have he1 : ∀ W, (binOp .eql tPlace (.agg #[.bool q.op, .int .i64 q.rg, .int .i64 q.ix]) (.agg #[.bool true, .int .i64 0, .int .i64 k])).run Tryz.prog W = .ok (.bool false) W := fun W => by rw [he W, decide_eq_false hpl]
              have HNO : Hid (rg ++ pickT G.keys (fun at_ => (⟨true, 0, at_⟩ : Pl)) lo (k + 1) = acc) := by
                show _ = _
                rw [HSUC.out, if_neg (by (try simp only); rw [HDEC.out]; exact fun hh => hpl hh.1), List.append_nil]
              rw [hhas] at hk0 hk1
              clear hhas he hpl
              go_wp2_with fail
              go_region
              all_goals
                go_wp2
                go_roundg (no - (k + 1))
                case measure => omega
                case rel =>
                  refine ⟨k + 1, _, rfl, rfl, by omega, by go_num, ?_⟩
                  rw [HNO.out]
                  exact ⟨own_chg HO1.out (by (repeat (first | (with_reducible exact Chg.refl _ _) | (with_reducible assumption) | (with_reducible refine Chg.drewN ?_ _) | (with_reducible refine Chg.drew ?_) | (with_reducible refine Chg.alloc ?_ _) | (with_reducible refine Chg.setCell ?_ (by first | (left; simp [DevH.foot]; done) | (right; simp; done) | (right; simp; omega)) _))) : Chg No W _) (fun _ _ h => h), HCW.out.trans (by (repeat (first | (with_reducible exact Chg.refl _ _) | (with_reducible assumption) | (with_reducible refine Chg.drewN ?_ _) | (with_reducible refine Chg.drew ?_) | (with_reducible refine Chg.alloc ?_ _) | (with_reducible refine Chg.setCell ?_ (by first | (left; simp [DevH.foot]; done) | (right; simp; done) | (right; simp; omega)) _)))), by omega, HCO.out.chg (by (repeat (first | (with_reducible exact Chg.refl _ _) | (with_reducible assumption) | (with_reducible refine Chg.drewN ?_ _) | (with_reducible refine Chg.drew ?_) | (with_reducible refine Chg.alloc ?_ _) | (with_reducible refine Chg.setCell ?_ (by first | (left; simp [DevH.foot]; done) | (right; simp; done) | (right; simp; omega)) _))) : Chg No W _) (fun _ _ _ _ h => h)⟩
        · obtain rfl : k = no := by omega
          have hall := pickT_all G.keys (fun at_ => (⟨true, 0, at_⟩ : Pl)) lo
          rw [← HNO2.out] at hall
          rw [hall, ← HI.out] at H
          clear hall
          go_wp2
          go_ret
          exact ⟨_, rfl, H.out.1, H.out.2.1⟩
end
end Go.Proofs.YtplpbbdakihnfaaGreat
end
