/- Packed texts: FlashD, RegI. -/
import Derived.Test.YtplpbbdakihnfaaGreatPk04
import Derived.Test.YtplpbbdakihnfaaGreatPk08
import Derived.Deep.LoopGhost
import Derived.Test.YtplpbbdakihnfaaGreatPk07

/- The flash device's Flush. -/
section
namespace Go.Proofs.YtplpbbdakihnfaaGreat
open Go.RowKit
open Go.ChangeMaps (setBlock)
set_option linter.unusedSimpArgs false
set_option linter.unusedVariables false

/-- the row while what waits is being laid into it: 'left' is still to come -/
def flcur (D : Dev) (left : List (Int × Value)) : Nat → Pg := fun i => if (aget left (i : Int)).isSome then D.fl i else (D.wt i).getD (D.fl i)

/-- what holds of the world in Flush's loop, 'left' being still to come -/
structure Flushing (h : DevH) (D : Dev) (w1 wr : World) (es left : List (Int × Value)) (ps : List Value) : Prop where
  rng : Ranging ikey wr h.M w1.heap.size left
  sub : ∀ k v, aget left k = some v → aget es k = some v
  blk : Blk wr h.F tPP ps.toArray
  row : RowAt wr.heap.size wr ps D.n (flcur D left)
  map : MapIs ikey wr h.M es
  chg : Chg (fun k => k = h.F) w1 wr
  big : w1.heap.size < wr.heap.size

theorem PgAt.ptr {N : Nat} {w : World} {v : Value} {p : Pg} (h : PgAt N w v p) : ∃ q, v = .pointer q := by
  cases p with
  | blank => exact ⟨_, h⟩
  | torn => obtain ⟨p, _, hv, _⟩ := h; exact ⟨_, hv⟩
  | full b => obtain ⟨p, q, _, _, hv, _⟩ := h; exact ⟨_, hv⟩

theorem flushing_step {h : DevH} {D : Dev} {N : Nat} {w1 wr wr2 : World} {es left : List (Int × Value)} {ps : List Value} (hd : DevN N w1 h D) (hes : WaitAt N w1 es D.n D.wt) (H : Flushing h D w1 wr es left ps) {k : Int} {v : Value}
    (hg : aget left k = some v) (hr : Ranging ikey wr2 h.M w1.heap.size (adel left k)) (hc : Chg (fun i => i = w1.heap.size) wr wr2) (hs : wr2.heap.size = wr.heap.size) (hnd : (akeys left).Nodup) :
    ∃ (i : Nat) (q : Option Addr), k = (i : Int) ∧ v = .pointer q ∧ i < D.n ∧ i < ps.length ∧ Flushing h D w1 (wr2.setCell ⟨h.F, i, none⟩ v) es (adel left k) (ps.set i v) := by
  obtain ⟨nF, nM, nMF⟩ := hd.apart
  have hbig := H.big
  have hFne : h.F ≠ w1.heap.size := by
    obtain ⟨ps, g, _⟩ := hd.row
    have := g.lt
    omega
  have hMne : h.M ≠ w1.heap.size := by
    obtain ⟨es, g, _⟩ := hd.map
    have := g.lt
    omega
  obtain ⟨i, pg, e1, e2, e3, e4⟩ := hes.1 k v (aget_mem (H.sub k v hg))
  subst e1
  have hlen := H.row.1
  have hcF : Chg (fun j => j = h.F) wr2 (wr2.setCell ⟨h.F, i, none⟩ v) := chg_setCell wr2 ⟨h.F, i, none⟩ v
  have hb2 : Blk wr2 h.F tPP ps.toArray := H.blk.chg hc hFne
  have hc2 : Chg (fun k => k = h.F) w1 (wr2.setCell ⟨h.F, i, none⟩ v) := (H.chg.then (T := fun i => i = w1.heap.size) hc (by intro j hj e; omega)).trans hcF
  have hkeep : ∀ g cs t, g < N → (t = tPage ∨ t = tU8) → Blk w1 g t cs → ¬ g = h.F := fun g cs t _ ht hb e => by
    refine hd.not_foot hb ?_ ?_ (.inr (.inl e)) <;> rcases ht with rfl | rfl <;> decide
  have hkeep2 : ∀ g cs t, g < wr.heap.size → (t = tPage ∨ t = tU8) → Blk wr g t cs → ¬ (g = h.F ∨ g = w1.heap.size) := fun g cs t _ ht hb e => by
    rcases e with rfl | rfl
    · have := hb.ne_ H.blk (by rcases ht with rfl | rfl <;> decide)
      exact this rfl
    · exact H.rng.not_blk hb rfl
  obtain ⟨q, hq⟩ := e4.ptr
  refine ⟨i, q, rfl, hq, e2, by omega, { rng := hr.chg hcF (fun e => nMF e) (fun e => hFne e.symm), sub := ?_, blk := ?_, row := ⟨by simpa using hlen, ?_⟩, map := (H.map.chg hc hMne).chg hcF (fun e => nMF e), chg := hc2, big := by simp [hs]; exact hbig }⟩
  · intro k' v' h'
    rw [aget_adel left hnd] at h'
    split at h'
    · cases h'
    · exact H.sub k' v' h'
  · have := hb2.set_ i v
    simpa using this
  · intro j u hu
    have hflj : ∀ j : Nat, j ≠ i → flcur D (adel left (i : Int)) j = flcur D left j := by
      intro j hj
      show (if (aget (adel left (i : Int)) (j : Int)).isSome then D.fl j else (D.wt j).getD (D.fl j)) = _
      have hne : ¬ ((i : Int) = (j : Int)) := by omega
      rw [aget_adel left hnd, if_neg hne]
      rfl
    rw [List.getElem?_set] at hu
    split at hu
    · rename_i hij
      subst hij
      split at hu
      · injection hu with hu
        subst hu
        have : flcur D (adel left (i : Int)) i = pg := by simp [flcur, aget_adel left hnd, e3]
        rw [this]
        refine (e4.chg hc2 hkeep).mono ?_
        have := hd.below
        simp [hs]; omega
      · cases hu
    · rename_i hij
      rw [hflj j (fun e => hij e.symm)]
      have h1 := H.row.2 j u hu
      have hcc : Chg (fun g => g = h.F ∨ g = w1.heap.size) wr (wr2.setCell ⟨h.F, i, none⟩ v) := (hc.mono (fun k _ e => .inr e)).trans (hcF.mono (fun k _ e => .inl e))
      refine (h1.chg hcc hkeep2).mono (by simp [hs])

theorem adel_length {κ V : Type} [DecidableEq κ] {l : List (κ × V)} {k : κ} {v : V} (h : aget l k = some v) : (adel l k).length + 1 = l.length := by
  induction l with
  | nil => simp [aget] at h
  | cons p r ih =>
    simp only [aget] at h
    simp only [adel]
    split
    · simp
    · rename_i hne
      rw [if_neg hne] at h
      simp [ih h]

theorem flush_calls {N : Nat} {w : World} {h : DevH} {D : Dev} (hd : DevN N w h D) :
    Calls Tryz.prog 43 #[.pointer (some ⟨h.d, 0, none⟩)] w fun e w' => e = .returned (.int .i64 D.changeE) ∧ DevAt w' h D.flush ∧ Chg h.foot w w' := by
  have hspend := Lib.hid (spend_calls hd)
  by_cases c0 : D.spent = true
  · rw [show D.changeE = 0 from by simp [Dev.changeE, c0], show D.flush = D.spend.settled from by simp [Dev.flush, c0]]
    rw [c0] at hspend
    go_enter Tryz.func43, Tryz.ntmps43
    go_wp2_with fail
    refine hspend.out.mono ?_
    rintro e w1 ⟨rfl, hd1, hc1⟩
    have HC1 := Lib.hid hc1
    have HD1 := Lib.hid hd1
    obtain ⟨D1, hD1⟩ : ∃ D1, D1 = D.spend := ⟨_, rfl⟩
    rw [← hD1] at hd1 HD1
    have HDE := Lib.hid hD1
    clear c0 hspend hd hc1 hD1
    obtain ⟨a, b, c, e, hb⟩ := hd1.box
    have hm1 := hb.cell 1
    simp at hm1
    obtain ⟨es, hm, hes⟩ := hd1.map
    obtain ⟨ps0, hF, hrow⟩ := hd1.row
    have HB := Lib.hid hb
    have HES := Lib.hid hes
    have HM := Lib.hid hm
    have HF := Lib.hid hF
    have HR := Lib.hid hrow
    have HN := Lib.hid hd1.nmost
    clear hb hes hm hF hrow hd1
    go_wp2_with (first
      | (at_range; refine wpList_rng _ rfl _ _ rfl Tryz.underlying74 h.M es rfl HM.out ?_; intro w2 hrng hc2 hs2; have HRNG := Lib.hid hrng; have HC2 := Lib.hid hc2; have HS2 := Lib.hid hs2; clear hrng hc2 hs2))
    go_frame
    go_loopg [] (es.length) (fun g wr => ∃ left ps, left.length = g ∧ Flushing h D1 w1 wr es left ps)
    case atStart =>
      refine ⟨es, ps0, rfl, { rng := HRNG.out, sub := fun _ _ h => h, blk := HF.out.chg HC2.out (fun h => h), row := ⟨HR.out.1, ?_⟩, map := HM.out.chg HC2.out (fun h => h), chg := HC2.out.mono (fun _ _ h => h.elim), big := by have := HS2.out; omega }⟩
      intro i v hv
      have h1 := HR.out.2 i v hv
      have h2 : PgAt w2.heap.size w2 v (D1.fl i) := (h1.chg HC2.out (fun _ _ _ _ _ _ h => h)).mono HC2.out.size
      have : flcur D1 es i = D1.fl i := by
        simp only [flcur]
        split
        · rfl
        · rename_i hn
          have : D1.wt i = none := by
            cases hw : D1.wt i with
            | none => rfl
            | some pg => obtain ⟨v, hv⟩ := HES.out.2 i pg hw; rw [hv] at hn; simp at hn
          simp [this]
      rw [this]; exact h2
    case round =>
      obtain ⟨left, ps, hl, H⟩ := hrel
      have HH := Lib.hid H
      have H0 := Lib.hid H
      have HL := Lib.hid hl
      have hd0 : wr.cell? ⟨h.d, 0, none⟩ = some (.slice (some ⟨h.F, 0, none⟩) D1.n D1.n) := by
        have := (HB.out.chg H.chg (by have := HD1.out.apart; intro e; exact this.1 e.symm)).cell 0
        simpa using this
      have hd1' : wr.cell? ⟨h.d, 1, none⟩ = some (.map (some h.M)) := by
        have := (HB.out.chg H.chg (by have := HD1.out.apart; intro e; exact this.1 e.symm)).cell 1
        simpa using this
      clear H hl hm1
      go_wp2_with (first
        | (at_next; refine wpList_nxt _ rfl _ rfl h.M w1.heap.size left rfl HH.out.rng ?_ ?_))
      · intro hleft
        have HLE := Lib.hid hleft
        clear hleft
        obtain ⟨o, hrun, hmc⟩ := HH.out.map.clear (P := Tryz.prog) (ty := 0) Tryz.underlying74
        obtain ⟨w3, hw3⟩ : ∃ w3, w3 = setBlock wr h.M o := ⟨_, rfl⟩
        have hc3 : Chg (fun i => i = h.M) wr w3 := by rw [hw3]; exact chg_setBlock _ _ _
        rw [← hw3] at hrun hmc
        clear hw3
        have AP := Lib.hid HD1.out.apart
        have hbr := HB.out.chg H0.out.chg (by intro e; exact AP.out.1 e.symm)
        have hb3 := hbr.chg hc3 (fun e => AP.out.2.1 e.symm)
        have h6 := hb3.cell 6
        simp at h6
        have f6 := hb3.frozen 6
        have hfd : Chg h.foot w1 (w3.setCell ⟨h.d, 6, none⟩ (.int .i64 (wrap64 (b + 1)))) :=
          (H0.out.chg.mono (fun k _ e => .inr (.inl e))).trans ((hc3.mono (fun k _ e => .inr (.inr e))).trans ((chg_setCell w3 ⟨h.d, 6, none⟩ _).mono (fun k _ e => .inl e)))
        have fin : DevAt (w3.setCell ⟨h.d, 6, none⟩ (.int .i64 (wrap64 (b + 1)))) h D1.settled := by
          refine HD1.out.step hfd rfl ⟨a, wrap64 (b + 1), c, e, ?_⟩ (.inl ⟨ps, ?_, H0.out.row.1, ?_⟩) (.inl ⟨[], ?_, ?_, ?_⟩) HD1.out.armed
          · have := hb3.set_ 6 (.int .i64 (wrap64 (b + 1)))
            simpa [Dev.settled] using this
          · exact (H0.out.blk.chg hc3 (fun e => AP.out.2.2 e.symm)).chg (chg_setCell w3 ⟨h.d, 6, none⟩ _) AP.out.1
          · intro i v hv
            have h1 := H0.out.row.2 i v hv
            have e1 : flcur D1 left i = D1.settled.fl i := by rw [HLE.out]; simp [flcur, aget, Dev.settled]
            rw [e1] at h1
            have hcc : Chg (fun g => g = h.M ∨ g = h.d) wr (w3.setCell ⟨h.d, 6, none⟩ (.int .i64 (wrap64 (b + 1)))) := (hc3.mono (fun k _ e => .inl e)).trans ((chg_setCell w3 ⟨h.d, 6, none⟩ _).mono (fun k _ e => .inr e))
            refine (h1.chg hcc ?_).mono hcc.size
            intro g cs t _ ht hb e
            rcases e with rfl | rfl
            · exact H0.out.map.ne_blk hb rfl
            · exact hb.ne_ hbr (by rcases ht with rfl | rfl <;> decide) rfl
          · exact hmc.chg (chg_setCell w3 ⟨h.d, 6, none⟩ _) AP.out.2.1
          · intro k v h; cases h
          · intro i pg h; cases h
        have F : Hid (DevAt (w3.setCell ⟨h.d, 6, none⟩ (.int .i64 (wrap64 (b + 1)))) h D1.settled ∧ Chg h.foot w (w3.setCell ⟨h.d, 6, none⟩ (.int .i64 (wrap64 (b + 1))))) := ⟨fin, HC1.out.trans hfd⟩
        clear fin hfd hb3 hbr hmc hc3
        go_wp2
        go_ret
        exact ⟨rfl, by rw [← HDE.out]; exact F.out⟩
      · intro k v wr2 hg hr hc hs hen
        have hnd : (akeys left).Nodup := by
          obtain ⟨_, _, _, _, _, _, _, _, h⟩ := H0.out.rng
          exact h
        obtain ⟨i, q, rfl, rfl, hin, hip, HS⟩ := flushing_step HD1.out HES.out H0.out hg hr hc hs hnd
        have HSS := Lib.hid HS
        have HLN : Hid ((adel left (i : Int)).length < gk) := by
          have := adel_length hg
          show _ < _
          rw [← HL.out]; omega
        have hd0' : wr2.cell? ⟨h.d, 0, none⟩ = some (.slice (some ⟨h.F, 0, none⟩) D1.n D1.n) := by
          have hne : h.d ≠ w1.heap.size := by have := HB.out.lt; omega
          rw [← hd0]
          exact World.cell?_of_block (hc.block h.d (by have := HB.out.lt; have := H0.out.big; omega) hne)
        have hFb : Blk wr2 h.F tPP ps.toArray := H0.out.blk.chg hc (by have := HF.out.lt; omega)
        have hFc : (wr2.cell? ⟨h.F, i, none⟩).isSome = true := by
          rw [hFb.cell i]
          simp [hip]
        obtain ⟨old, hold⟩ := Option.isSome_iff_exists.1 hFc
        have hFf := hFb.frozen i
        have hni : (i : Int) < (D1.n : Int) := by omega
        clear HS hFb hFc hg hr hc hs hnd hip hd0
        go_wp2
        go_roundg (adel left (i : Int)).length
        case measure => exact HLN.out
        case rel => exact ⟨_, _, rfl, HSS.out⟩
  · have c1 : D.spent = false := by simpa using c0
    rw [show D.changeE = 4 from by simp [Dev.changeE, c1], show D.flush = D.spend from by simp [Dev.flush, c1]]
    rw [c1] at hspend
    clear c0 c1
    go_enter Tryz.func43, Tryz.ntmps43
    go_wp2_with fail
    refine hspend.out.mono ?_
    rintro e w1 ⟨rfl, hd1, hc1⟩
    have F := Lib.hid (And.intro hd1 hc1)
    clear hd1 hc1 hspend hd
    go_wp2
    go_ret
    exact ⟨rfl, F.out⟩
end Go.Proofs.YtplpbbdakihnfaaGreat
end

/- region's write, walked. -/
section
namespace Go.Proofs.YtplpbbdakihnfaaGreat
open Go.RowKit
attribute [local go_sem ↓] Go.wp_at_zero Go.wp_at_succ
set_option linter.unusedSimpArgs false
set_option linter.unusedVariables false

/-- from and to of a page's part -/
def pFrom (nb k : Nat) : Nat := if nb < k * 368 then nb else k * 368
theorem pFrom_le (nb k : Nat) : pFrom nb k ≤ nb := by unfold pFrom; split <;> omega
theorem pFrom_mono (nb k : Nat) : pFrom nb k ≤ pFrom nb (k + 1) := by unfold pFrom; split <;> split <;> omega
theorem pFrom_a {nb k : Nat} (h : nb < k * 368) : pFrom nb k = nb := if_pos h
theorem pFrom_b {nb k : Nat} (h : ¬ nb < k * 368) : pFrom nb k = k * 368 := if_neg h
theorem nlt368 {nb k : Nat} (h : nb < k * 368) : nb < (k + 1) * 368 := Nat.lt_of_lt_of_le h (Nat.mul_le_mul_right 368 (Nat.le_succ k))
theorem part_cut (b : List UInt8) (k : Nat) : (b.drop (pFrom b.length k)).take (pFrom b.length (k + 1) - pFrom b.length k) = rgPart b k := by
  unfold rgPart
  by_cases h1 : b.length < k * 368
  · have h3 : b.length ≤ k * 368 := Nat.le_of_lt h1
    have e1 : b.drop (k * 368) = [] := List.drop_eq_nil_of_le h3
    rw [e1, pFrom_a h1, List.drop_length, List.take_nil, List.take_nil]
  · rw [pFrom_b h1]
    by_cases h2 : b.length < (k + 1) * 368
    · rw [pFrom_a h2]
      have h3 : (b.drop (k * 368)).length ≤ 368 := by rw [List.length_drop]; omega
      rw [List.take_of_length_le h3, List.take_of_length_le (by rw [List.length_drop]; exact Nat.le_refl _)]
    · rw [pFrom_b h2]
      have h3 : (k + 1) * 368 - k * 368 = 368 := by omega
      rw [h3]
theorem part_len (b : List UInt8) (k : Nat) : (rgPart b k).length = pFrom b.length (k + 1) - pFrom b.length k := by
  have := pFrom_le b.length (k + 1)
  rw [← part_cut, List.length_take, List.length_drop]; omega
theorem part_le (b : List UInt8) (k : Nat) : (rgPart b k).length ≤ 368 := by unfold rgPart; rw [List.length_take]; omega
theorem rgPg_len (b : List UInt8) (n k : Nat) : (rgPg b n k).length = 16 + (rgPart b k).length := by simp [rgPg, rgHead, le_length]; omega

theorem layB_exact (l : List Item) (hg : goods l = true) (hs : isum l ≤ 65536) : layB l (isum l) = records l := by
  have he : layE l (isum l) = 0 := by
    unfold layE
    rw [if_pos hg, if_neg (by omega), if_neg (by rw [isum_records]; omega)]
  unfold layB
  rw [if_pos he, isum_records]
  simp

theorem rd_four (W : World) (k : Nat) : Rd (W.alloc (.cells #[.int .u8 k, .int .u8 0] tU8)) tU8 (some ⟨W.heap.size, 0, none⟩) (2 * 1) [.int .u8 k, .int .u8 0] := by
  have := Rd.ofBlk (k := 2) (Blk.new W tU8 #[.int .u8 k, .int .u8 0]) (by simp)
  simpa using this

theorem rd_four2 (W : World) (o : Obj) (k : Nat) : Rd ((W.alloc o).alloc (.cells #[.int .u8 k, .int .u8 0] tU8)) tU8 (some ⟨W.heap.size + 1, 0, none⟩) (2 * 1) [.int .u8 k, .int .u8 0] := by
  have := rd_four (W.alloc o) k
  rwa [World.size_alloc] at this
section
variable {N : Nat} {w : World} {h : DevH} {t : LgH} {G : Lg} {D : Dev}
set_option maxRecDepth 100000 in
set_option maxHeartbeats 8000000 in
theorem rwrite_calls (hd : DevN N w h D) (hl : LgAt w h t G) (i n : Nat) (hi : i < G.regs.length) (hn : n < 18446744073709551616) :
    Calls Tryz.prog 88 #[.pointer (some ⟨t.L, 0, none⟩), .int .i64 i, .int .u64 n] w
      fun e w' => e = .returned (.int .i64 (wr D ((G.first + 4 * i : Nat) : Int) n (records G.opn)).2) ∧ DevAt w' h (wr D ((G.first + 4 * i : Nat) : Int) n (records G.opn)).1 ∧ Chg h.foot w w' := by
  have HD := Lib.hid hd
  have HL := Lib.hid hl
  obtain ⟨Ao, co, hO, hnco, hrdo⟩ := hl.openAs
  have hsum := hl.ok.sum
  have hlen := hl.ok.len
  have hgood := hl.ok.good
  have hfit := hl.ok.fit
  have hLAY := fun W => Lib.hid (fun hc : Chg No w W => lay_calls Ao co G.opn (isum G.opn) W (hrdo.chg hc (fun _ _ _ _ h => h)) (by omega) (by omega))
  rw [layB_exact _ hgood (by omega)] at hLAY
  have d4 := hl.box.cell 4
  have d5 := hl.box.cell 5
  simp at d4 d5
  rw [hO] at d4
  have hll := hl.lt _ hl.ownL
  have hbl : (records G.opn).length ≤ 1472 := by rw [isum_records]; exact hsum
  obtain ⟨b, hb⟩ : ∃ b, b = records G.opn := ⟨_, rfl⟩
  rw [← hb] at hLAY hbl ⊢
  obtain ⟨no, hno⟩ : ∃ no, no = G.opn.length := ⟨_, rfl⟩
  obtain ⟨sz, hsz⟩ : ∃ sz, sz = isum G.opn := ⟨_, rfl⟩
  obtain ⟨le0, hle0⟩ : ∃ z, z = layE G.opn (isum G.opn) := ⟨_, rfl⟩
  rw [← hle0] at hLAY
  rw [← hno] at d4 hLAY hlen
  rw [← hsz] at d5 hLAY
  obtain ⟨first, hfirst⟩ : ∃ f, f = G.first := ⟨_, rfl⟩
  rw [← hfirst] at hfit ⊢
  obtain ⟨m, hm⟩ : ∃ m, m = G.regs.length := ⟨_, rfl⟩
  rw [← hm] at hfit hi
  have HFI : Hid (first = G.first) := hfirst
  clear hd hl hO hrdo hsum hgood hb hno hsz hle0 hfirst hm
  go_enter Tryz.func88, Tryz.ntmps88
  go_wp2_with fail
  go_region_held3 (fun w' => w'.cell? ⟨t.L, 4, none⟩ = some (.slice Ao no co) ∧ w'.cell? ⟨t.L, 5, none⟩ = some (.int .i64 sz)) (first | go_keep)
    ((go_at_call 73; refine ((hLAY _).out (by (repeat (first | (with_reducible exact Chg.refl _ _) | (with_reducible assumption) | (with_reducible refine Chg.drewN ?_ _) | (with_reducible refine Chg.drew ?_) | (with_reducible refine Chg.alloc ?_ _) | (with_reducible refine Chg.setCell ?_ (by first | (left; simp [DevH.foot]; done) | (right; simp; done) | (right; simp; omega)) _))))).mono ?_; rintro e w1 ⟨vb, rfl, ho1, hc1⟩; have HO1 := Lib.hid ho1; have HC1 : Hid (Chg No w w1) := (by (repeat (first | (with_reducible exact Chg.refl _ _) | (with_reducible assumption) | (with_reducible refine Chg.drewN ?_ _) | (with_reducible refine Chg.drew ?_) | (with_reducible refine Chg.alloc ?_ _) | (with_reducible refine Chg.setCell ?_ (by first | (left; simp [DevH.foot]; done) | (right; simp; done) | (right; simp; omega)) _))) : Chg No w _).trans hc1; have d4' := (HC1.out.toBelow.cell (p := ⟨t.L, 4, none⟩) hll).trans d4; have d5' := (HC1.out.toBelow.cell (p := ⟨t.L, 5, none⟩) hll).trans d5; clear ho1 hc1))
  all_goals
    obtain ⟨Ab, cb, rfl, hncb, hrb⟩ := own_slice HO1.out
    have HRB : Hid (Rd w1 tU8 Ab b.length (bys b)) := by show Rd _ _ _ _ _; simpa using hrb
    clear hrb
    obtain ⟨nb, hnb⟩ : ∃ nb, nb = b.length := ⟨_, rfl⟩
    rw [← hnb] at HRB hbl hncb ⊢
    have HNB := Lib.hid hnb
    clear hnb hLAY d4 d5
    go_wp2
    go_loopg [26] 4 (fun gk vi wr => ∃ (k : Nat) (Dk : Dev), gk = 4 - k ∧ k ≤ 4 ∧ vi = .int .i64 k ∧ Hid (DevAt wr h Dk ∧ LgAt wr h t G ∧ Rd wr tU8 Ab nb (bys b) ∧ Chg h.foot w wr ∧ Go.Proofs.YtplpbbdakihnfaaGreat.wr D ((first + 4 * i : Nat) : Int) n b = wrGo ((first + 4 * i : Nat) : Int) n b k (4 - k) Dk))
    case atStart => exact ⟨0, D, rfl, Nat.zero_le _, rfl, (HD.out.chgNo HC1.out).at_, HL.out.chgNo HC1.out, HRB.out, HC1.out.mono (fun _ _ h => h.elim), rfl⟩
    case round =>
      obtain ⟨k, Dk, rfl, hk, rfl, H⟩ := hrel
      by_cases hlt : k < 4
      · have hpl := part_len b k
        have hpc := part_cut b k
        have hple := part_le b k
        have hpgl := rgPg_len b n k
        rw [← HNB.out] at hpl hpc
        have hfm := pFrom_mono nb k
        have hfl := pFrom_le nb (k + 1)
        have hstep : Hid (Go.Proofs.YtplpbbdakihnfaaGreat.wr D ((first + 4 * i : Nat) : Int) n b = if Dk.writeE (((first + 4 * i : Nat) : Int) + k) (rgPg b n k).length = 0 then wrGo ((first + 4 * i : Nat) : Int) n b (k + 1) (4 - (k + 1)) (Dk.write (((first + 4 * i : Nat) : Int) + k) (rgPg b n k)) else (Dk.write (((first + 4 * i : Nat) : Int) + k) (rgPg b n k), Dk.writeE (((first + 4 * i : Nat) : Int) + k) (rgPg b n k).length)) := by
          show _ = _
          rw [H.out.2.2.2.2, show 4 - k = (4 - (k + 1)) + 1 by omega]
          rfl
        obtain ⟨ml, hml⟩ : ∃ ml, ml = (rgPart b k).length := ⟨_, rfl⟩
        rw [← hml] at hpl hple hpgl
        have HML := Lib.hid hml
        have d0 := H.out.2.1.box.cell 0
        have d2 := H.out.2.1.box.cell 2
        simp at d0 d2
        rw [← HFI.out] at d2
        have HPGL := Lib.hid hpgl
        have HPC := Lib.hid hpc
        clear hpc hpgl hml
        by_cases g1 : nb < k * 368
        · have r1 : (nb : Int) < (k : Int) * 368 := by omega
          have r2 : (nb : Int) < ((k : Int) + 1) * 368 := by omega
          have hsl : pFrom nb k = ((nb : Int)).toNat := by rw [pFrom_a g1]; omega
          have hsh : pFrom nb (k + 1) = ((nb : Int)).toNat := by rw [pFrom_a (nlt368 g1)]; omega
          obtain ⟨A5, hs5, hd5⟩ := sub_slice (P := Tryz.prog) Tryz.underlying40 ti_u8 Ab nb cb ((nb : Int)) ((nb : Int)) (by omega) (by omega) (by omega)
          have hs5' : ∀ W : World, (Instr.sliceAt tBytes (.slice Ab nb cb) (some (.int .i64 ((nb : Int)))) (some (.int .i64 ((nb : Int)))) none).run Tryz.prog W = _ := fun W => (run_sliceAt_slice W tBytes _ _ _ _ Tryz.underlying40).trans (hs5 W)
          have hdd := (by omega : (((nb : Int))).toNat - (((nb : Int))).toNat = ml)
          rw [hdd] at hs5 hs5'
          have HD5 : Hid (∀ W, Rd W tU8 Ab nb (bys b) → Rd W tU8 A5 ml (bys (rgPart b k))) := fun W hW => by
            have h5 := hd5 W tU8 (bys b) (by simpa using hW) (by omega)
            rw [hdd, ← hsl] at h5
            simp only [Nat.mul_one] at h5
            rw [← bys_drop, ← bys_take, hpl, HPC.out, ← hpl] at h5
            exact h5
          have hsub : IntKind.i64.wrap ((nb : Int) - (nb : Int)) = 0 := by rw [IntWalk.i64_in _ (by omega)]; omega
          have HM0 : Hid (ml = 0) := by show _ = _; omega
          clear hd5 hsl hsh
          have hfm' := hfm
          clear hpl hfm hfl
          go_wp2_with fail
          refine (gmagic_calls _).mono ?_
          rintro e w2 ⟨rfl, rfl⟩
          have ow0 := own_cells wr tU8 #[.int .u8 82, .int .u8 71] 2 rfl (by simp [maxLen])
          have HOW0 := Lib.hid ow0
          have hku : IntKind.u8.wrap (k : Int) = (k : Int) := wraps_u8 _ (by omega) (by omega)
          have hmu : IntKind.u64.wrap (ml : Int) = (ml : Int) := wraps_u64 _ (by omega) (by omega)
          clear ow0
          go_wp2_with (first
            | (at_builtin; go_loud (refine wpList_app _ rfl (.tmp 40) (.tmp 43) tBytes rfl tU8 Tryz.underlying40 ti_u8 rfl (by omega) wr.heap.size _ 2 _ rfl (HOW0.out.alloc _) tU8 _ 2 2 [.int .u8 (k : Int), .int .u8 0] rfl (rd_four2 _ _ k) (by simp [Value.oneCell']) (by simp [maxLen]) (by omega) (by simp; omega) ?_); intro v3 w3 ho3 hg3 hb3; have HO3 := Lib.hid ho3; have HC3 : Hid (Chg No wr w3) := Chg.grown (by (repeat (first | (with_reducible exact Chg.refl _ _) | (with_reducible assumption) | (with_reducible refine Chg.drewN ?_ _) | (with_reducible refine Chg.drew ?_) | (with_reducible refine Chg.alloc ?_ _) | (with_reducible refine Chg.setCell ?_ (by first | (left; simp [DevH.foot]; done) | (right; simp; done) | (right; simp; omega)) _)))) hg3 (fun j hj => .inr (own_new HOW0.out j hj)); clear ho3 hg3 hb3))
          have HB4 : Hid ([Value.int .u8 82, .int .u8 71] ++ [.int .u8 (k : Int), .int .u8 0] = bys [82, 71, UInt8.ofNat k, 0]) := by
            show _ = _
            have : ((UInt8.ofNat k).toNat : Int) = (k : Int) := by rw [UInt8.toNat_ofNat']; omega
            simp [bys]; omega
          have HO3' : Hid (w3.ownsRow wr.heap.size tU8 1 v3 4 (bys [82, 71, UInt8.ofNat k, 0])) := by rw [← HB4.out]; exact HO3.out
          have HA4 := Lib.hid (gadd_callsI v3 wr.heap.size 4 (bys [82, 71, UInt8.ofNat k, 0]) 0 4 w3 HO3'.out HC3.out.size (by omega) (by omega) (by omega) (by omega) (by omega))
          go_wp2_with fail
          refine HA4.out.mono ?_
          rintro e w4 ⟨v4, rfl, ho4, hc4⟩
          have HO4 : Hid (w4.ownsRow wr.heap.size tU8 1 v4 8 (bys ([82, 71, UInt8.ofNat k, 0] ++ le 4 ml))) := by rw [bys_append, HM0.out]; exact ho4
          have HC4 : Hid (Chg No wr w4) := HC3.out.then hc4 (fun j hj hS => by have : wr.heap.size ≤ j := hS; omega)
          clear ho4 hc4 HA4
          have HA8 := fun W => Lib.hid (fun hc : Chg No w4 W => gadd_callsI v4 wr.heap.size 8 (bys ([82, 71, UInt8.ofNat k, 0] ++ le 4 ml)) (n : Int) 8 W (own_chg HO4.out hc (fun _ _ h => h)) (by have h1 := HC4.out.size; have h2 := hc.size; omega) (by omega) (by omega) (by omega) (by omega) (by omega))
          go_wp2_with fail
          have h63 : 16 + ml ≤ maxLen := by simp only [maxLen]; omega
          have hby : (16 + ml) * 1 ≤ 140737488355328 := by omega
          go_region_held3 (fun w' => True) (trivial)
            ((first
              | (go_at_call 111
                 refine ((HA8 _).out (by (repeat (first | (with_reducible exact Chg.refl _ _) | (with_reducible assumption) | (with_reducible refine Chg.drewN ?_ _) | (with_reducible refine Chg.drew ?_) | (with_reducible refine Chg.alloc ?_ _) | (with_reducible refine Chg.setCell ?_ (by first | (left; simp [DevH.foot]; done) | (right; simp; done) | (right; simp; omega)) _))))).mono ?_
                 rintro e w5 ⟨v5, rfl, ho5, hc5⟩
                 have HC5 : Hid (Chg No wr w5) := (HC4.out.trans (by (repeat (first | (with_reducible exact Chg.refl _ _) | (with_reducible assumption) | (with_reducible refine Chg.drewN ?_ _) | (with_reducible refine Chg.drew ?_) | (with_reducible refine Chg.alloc ?_ _) | (with_reducible refine Chg.setCell ?_ (by first | (left; simp [DevH.foot]; done) | (right; simp; done) | (right; simp; omega)) _))))).then hc5 (fun j hj hS => by have : wr.heap.size ≤ j := hS; omega)
                 have HO5 : Hid (w5.ownsRow wr.heap.size tU8 1 v5 16 (bys (rgHead k n ml))) := by
                   have e16 : bys (rgHead k n ml) = bys ([82, 71, UInt8.ofNat k, 0] ++ le 4 ml) ++ bys (le 8 n) := by unfold rgHead; rw [← bys_append, List.append_assoc]
                   rw [e16]; exact ho5
                 clear ho5 hc5)
              | (have h5 := HD5.out w5 (H.out.2.2.1.chg HC5.out (fun _ _ _ _ h => h))
                 have h5' : Rd w5 tU8 A5 (ml * 1) (bys (rgPart b k)) := (Nat.mul_one ml).symm ▸ h5
                 refine step_app _ rfl (.tmp 52) (.tmp 56) tBytes rfl tU8 Tryz.underlying40 ti_u8 rfl Nat.one_pos wr.heap.size _ 16 _ rfl HO5.out tU8 A5 ml _ (bys (rgPart b k)) rfl h5' bys_one_cell h63 hby HC5.out.size ?_
                 intro v6 w6 ho6 hg6 hb6
                 have HC6 : Hid (Chg No wr w6) := Chg.grown HC5.out hg6 (fun j hj => .inr (own_new HO5.out j hj))
                 have HO6 : Hid (w6.ownsRow wr.heap.size tU8 1 v6 (16 + ml) (bys (rgPg b n k))) := by
                   unfold rgPg; rw [bys_append, ← HML.out]; exact ho6
                 clear ho6 hg6 hb6)))
          obtain ⟨A6, c6, rfl, hnc6, hr6⟩ := own_slice HO6.out
          have HR6 : Hid (Rd w6 tU8 A6 (16 + ml) (bys (rgPg b n k))) := by show Rd _ _ _ _ _; simpa using hr6
          have e0 := (HC6.out.toBelow.cell (p := ⟨t.L, 0, none⟩) (H.out.2.1.lt _ H.out.2.1.ownL)).trans d0
          have e2 := (HC6.out.toBelow.cell (p := ⟨t.L, 2, none⟩) (H.out.2.1.lt _ H.out.2.1.ownL)).trans d2
          have HLL : Hid (t.L < w6.heap.size) := by have h1 := H.out.2.1.lt _ H.out.2.1.ownL; have h2 := HC6.out.size; show _ < _; omega
          have hadd1 : IntKind.i64.wrap (4 * (i : Int)) = 4 * (i : Int) := IntWalk.i64_in _ (by omega)
          have hadd2 : IntKind.i64.wrap ((first : Int) + 4 * (i : Int)) = (first : Int) + 4 * (i : Int) := IntWalk.i64_in _ (by omega)
          have hadd3 : IntKind.i64.wrap ((first : Int) + 4 * (i : Int) + (k : Int)) = (first : Int) + 4 * (i : Int) + (k : Int) := IntWalk.i64_in _ (by omega)
          have HWR := fun W => Lib.hid (fun hc : Chg No w6 W => write_calls ((H.out.1.chgNo HC6.out).chgNo hc) ((first : Int) + 4 * (i : Int) + (k : Int)) A6 (16 + ml) c6 (rgPg b n k) (HR6.out.chg hc (fun _ _ _ _ h => h)) (by omega))
          have hbase : ((first + 4 * i : Nat) : Int) + (k : Int) = (first : Int) + 4 * (i : Int) + (k : Int) := by omega
          rw [hbase] at hstep
          obtain ⟨er, her⟩ : ∃ er, er = Dk.writeE ((first : Int) + 4 * (i : Int) + (k : Int)) (rgPg b n k).length := ⟨_, rfl⟩
          rw [← her] at hstep
          simp only [← her] at HWR
          clear her
          clear hr6 hbase d0 d2
          go_wp2_with fail
          go_region_held3 (fun w' => w'.cell? ⟨t.L, 0, none⟩ = some (.pointer (some ⟨h.d, 0, none⟩)) ∧ w'.cell? ⟨t.L, 2, none⟩ = some (.int .i64 (first : Int))) (first | go_keep)
            ((go_at_call 74
              refine ((HWR _).out (by (repeat (first | (with_reducible exact Chg.refl _ _) | (with_reducible assumption) | (with_reducible refine Chg.drewN ?_ _) | (with_reducible refine Chg.drew ?_) | (with_reducible refine Chg.alloc ?_ _) | (with_reducible refine Chg.setCell ?_ (by first | (left; simp [DevH.foot]; done) | (right; simp; done) | (right; simp; omega)) _))))).mono ?_
              rintro e w7 ⟨rfl, hd7, hc7⟩
              have HD7 := Lib.hid hd7
              have HC7 : Hid (Chg h.foot w6 w7) := (by (repeat (first | (with_reducible exact Chg.refl _ _) | (with_reducible assumption) | (with_reducible refine Chg.drewN ?_ _) | (with_reducible refine Chg.drew ?_) | (with_reducible refine Chg.alloc ?_ _) | (with_reducible refine Chg.setCell ?_ (by first | (left; simp [DevH.foot]; done) | (right; simp; done) | (right; simp; omega)) _))) : Chg No w6 _).mono (fun _ _ h => h.elim) |>.trans hc7
              have HL7 := Lib.hid ((H.out.2.1.chgNo HC6.out).foot (H.out.1.chgNo HC6.out) HC7.out)
              clear hd7 hc7
              have e07 := HL7.out.box.cell 0
              have e27 := HL7.out.box.cell 2
              simp at e07 e27
              rw [← HFI.out] at e27))
          have HR7 : Hid (Rd w7 tU8 Ab nb (bys b)) := (H.out.2.2.1.chg HC6.out (fun _ _ _ _ h => h)).chg HC7.out (fun g cur fz hg => (H.out.1.chgNo HC6.out).not_foot hg (by decide) (by decide))
          have HCW : Hid (Chg h.foot w w7) := (H.out.2.2.2.1.then HC6.out (fun _ _ h => h.elim)).trans HC7.out
          by_cases he : er = 0
          · subst he
            have HST : Hid (Go.Proofs.YtplpbbdakihnfaaGreat.wr D ((first + 4 * i : Nat) : Int) n b = wrGo ((first + 4 * i : Nat) : Int) n b (k + 1) (4 - (k + 1)) (Dk.write ((first : Int) + 4 * (i : Int) + (k : Int)) (rgPg b n k))) := by show _ = _; rw [hstep.out, if_pos rfl]
            clear hstep
            go_wp2
            go_roundg (4 - (k + 1))
            case measure => omega
            case rel => exact ⟨k + 1, _, rfl, by omega, by go_num, HD7.out, HL7.out, HR7.out, HCW.out, HST.out⟩
          · have HST : Hid (Go.Proofs.YtplpbbdakihnfaaGreat.wr D ((first + 4 * i : Nat) : Int) n b = (Dk.write ((first : Int) + 4 * (i : Int) + (k : Int)) (rgPg b n k), er)) := by show _ = _; rw [hstep.out, if_neg he]
            have hb0 : (er != 0) = true := by simpa using he
            clear hstep
            go_wp2
            go_ret
            exact ⟨by rw [HST.out]; rfl, by rw [HST.out]; exact HD7.out, HCW.out⟩
        · by_cases g2 : nb < (k + 1) * 368
          · have r1 : ¬ (nb : Int) < (k : Int) * 368 := by omega
            have r2 : (nb : Int) < ((k : Int) + 1) * 368 := by omega
            have hsl : pFrom nb k = (((k : Int) * 368)).toNat := by rw [pFrom_b g1]; omega
            have hsh : pFrom nb (k + 1) = ((nb : Int)).toNat := by rw [pFrom_a g2]; omega
            obtain ⟨A5, hs5, hd5⟩ := sub_slice (P := Tryz.prog) Tryz.underlying40 ti_u8 Ab nb cb (((k : Int) * 368)) ((nb : Int)) (by omega) (by omega) (by omega)
            have hs5' : ∀ W : World, (Instr.sliceAt tBytes (.slice Ab nb cb) (some (.int .i64 (((k : Int) * 368)))) (some (.int .i64 ((nb : Int)))) none).run Tryz.prog W = _ := fun W => (run_sliceAt_slice W tBytes _ _ _ _ Tryz.underlying40).trans (hs5 W)
            have hdd := (by omega : (((nb : Int))).toNat - ((((k : Int) * 368))).toNat = ml)
            rw [hdd] at hs5 hs5'
            have HD5 : Hid (∀ W, Rd W tU8 Ab nb (bys b) → Rd W tU8 A5 ml (bys (rgPart b k))) := fun W hW => by
              have h5 := hd5 W tU8 (bys b) (by simpa using hW) (by omega)
              rw [hdd, ← hsl] at h5
              simp only [Nat.mul_one] at h5
              rw [← bys_drop, ← bys_take, hpl, HPC.out, ← hpl] at h5
              exact h5
            have hsub : IntKind.i64.wrap ((nb : Int) - ((k : Int) * 368)) = (ml : Int) := by rw [IntWalk.i64_in _ (by omega)]; omega
            clear hd5 hsl hsh
            have hfm' := hfm
            clear hpl hfm hfl
            go_wp2_with fail
            refine (gmagic_calls _).mono ?_
            rintro e w2 ⟨rfl, rfl⟩
            have ow0 := own_cells wr tU8 #[.int .u8 82, .int .u8 71] 2 rfl (by simp [maxLen])
            have HOW0 := Lib.hid ow0
            have hku : IntKind.u8.wrap (k : Int) = (k : Int) := wraps_u8 _ (by omega) (by omega)
            have hmu : IntKind.u64.wrap (ml : Int) = (ml : Int) := wraps_u64 _ (by omega) (by omega)
            clear ow0
            go_wp2_with (first
              | (at_builtin; go_loud (refine wpList_app _ rfl (.tmp 40) (.tmp 43) tBytes rfl tU8 Tryz.underlying40 ti_u8 rfl (by omega) wr.heap.size _ 2 _ rfl (HOW0.out.alloc _) tU8 _ 2 2 [.int .u8 (k : Int), .int .u8 0] rfl (rd_four2 _ _ k) (by simp [Value.oneCell']) (by simp [maxLen]) (by omega) (by simp; omega) ?_); intro v3 w3 ho3 hg3 hb3; have HO3 := Lib.hid ho3; have HC3 : Hid (Chg No wr w3) := Chg.grown (by (repeat (first | (with_reducible exact Chg.refl _ _) | (with_reducible assumption) | (with_reducible refine Chg.drewN ?_ _) | (with_reducible refine Chg.drew ?_) | (with_reducible refine Chg.alloc ?_ _) | (with_reducible refine Chg.setCell ?_ (by first | (left; simp [DevH.foot]; done) | (right; simp; done) | (right; simp; omega)) _)))) hg3 (fun j hj => .inr (own_new HOW0.out j hj)); clear ho3 hg3 hb3))
            have HB4 : Hid ([Value.int .u8 82, .int .u8 71] ++ [.int .u8 (k : Int), .int .u8 0] = bys [82, 71, UInt8.ofNat k, 0]) := by
              show _ = _
              have : ((UInt8.ofNat k).toNat : Int) = (k : Int) := by rw [UInt8.toNat_ofNat']; omega
              simp [bys]; omega
            have HO3' : Hid (w3.ownsRow wr.heap.size tU8 1 v3 4 (bys [82, 71, UInt8.ofNat k, 0])) := by rw [← HB4.out]; exact HO3.out
            have HA4 := Lib.hid (gadd_callsI v3 wr.heap.size 4 (bys [82, 71, UInt8.ofNat k, 0]) (ml : Int) 4 w3 HO3'.out HC3.out.size (by omega) (by omega) (by omega) (by omega) (by omega))
            go_wp2_with fail
            refine HA4.out.mono ?_
            rintro e w4 ⟨v4, rfl, ho4, hc4⟩
            have HO4 : Hid (w4.ownsRow wr.heap.size tU8 1 v4 8 (bys ([82, 71, UInt8.ofNat k, 0] ++ le 4 ml))) := by rw [bys_append]; exact ho4
            have HC4 : Hid (Chg No wr w4) := HC3.out.then hc4 (fun j hj hS => by have : wr.heap.size ≤ j := hS; omega)
            clear ho4 hc4 HA4
            have HA8 := fun W => Lib.hid (fun hc : Chg No w4 W => gadd_callsI v4 wr.heap.size 8 (bys ([82, 71, UInt8.ofNat k, 0] ++ le 4 ml)) (n : Int) 8 W (own_chg HO4.out hc (fun _ _ h => h)) (by have h1 := HC4.out.size; have h2 := hc.size; omega) (by omega) (by omega) (by omega) (by omega) (by omega))
            go_wp2_with fail
            have h63 : 16 + ml ≤ maxLen := by simp only [maxLen]; omega
            have hby : (16 + ml) * 1 ≤ 140737488355328 := by omega
            go_region_held3 (fun w' => True) (trivial)
              ((first
                | (go_at_call 111
                   refine ((HA8 _).out (by (repeat (first | (with_reducible exact Chg.refl _ _) | (with_reducible assumption) | (with_reducible refine Chg.drewN ?_ _) | (with_reducible refine Chg.drew ?_) | (with_reducible refine Chg.alloc ?_ _) | (with_reducible refine Chg.setCell ?_ (by first | (left; simp [DevH.foot]; done) | (right; simp; done) | (right; simp; omega)) _))))).mono ?_
                   rintro e w5 ⟨v5, rfl, ho5, hc5⟩
                   have HC5 : Hid (Chg No wr w5) := (HC4.out.trans (by (repeat (first | (with_reducible exact Chg.refl _ _) | (with_reducible assumption) | (with_reducible refine Chg.drewN ?_ _) | (with_reducible refine Chg.drew ?_) | (with_reducible refine Chg.alloc ?_ _) | (with_reducible refine Chg.setCell ?_ (by first | (left; simp [DevH.foot]; done) | (right; simp; done) | (right; simp; omega)) _))))).then hc5 (fun j hj hS => by have : wr.heap.size ≤ j := hS; omega)
                   have HO5 : Hid (w5.ownsRow wr.heap.size tU8 1 v5 16 (bys (rgHead k n ml))) := by
                     have e16 : bys (rgHead k n ml) = bys ([82, 71, UInt8.ofNat k, 0] ++ le 4 ml) ++ bys (le 8 n) := by unfold rgHead; rw [← bys_append, List.append_assoc]
                     rw [e16]; exact ho5
                   clear ho5 hc5)
                | (have h5 := HD5.out w5 (H.out.2.2.1.chg HC5.out (fun _ _ _ _ h => h))
                   have h5' : Rd w5 tU8 A5 (ml * 1) (bys (rgPart b k)) := (Nat.mul_one ml).symm ▸ h5
                   refine step_app _ rfl (.tmp 52) (.tmp 56) tBytes rfl tU8 Tryz.underlying40 ti_u8 rfl Nat.one_pos wr.heap.size _ 16 _ rfl HO5.out tU8 A5 ml _ (bys (rgPart b k)) rfl h5' bys_one_cell h63 hby HC5.out.size ?_
                   intro v6 w6 ho6 hg6 hb6
                   have HC6 : Hid (Chg No wr w6) := Chg.grown HC5.out hg6 (fun j hj => .inr (own_new HO5.out j hj))
                   have HO6 : Hid (w6.ownsRow wr.heap.size tU8 1 v6 (16 + ml) (bys (rgPg b n k))) := by
                     unfold rgPg; rw [bys_append, ← HML.out]; exact ho6
                   clear ho6 hg6 hb6)))
            obtain ⟨A6, c6, rfl, hnc6, hr6⟩ := own_slice HO6.out
            have HR6 : Hid (Rd w6 tU8 A6 (16 + ml) (bys (rgPg b n k))) := by show Rd _ _ _ _ _; simpa using hr6
            have e0 := (HC6.out.toBelow.cell (p := ⟨t.L, 0, none⟩) (H.out.2.1.lt _ H.out.2.1.ownL)).trans d0
            have e2 := (HC6.out.toBelow.cell (p := ⟨t.L, 2, none⟩) (H.out.2.1.lt _ H.out.2.1.ownL)).trans d2
            have HLL : Hid (t.L < w6.heap.size) := by have h1 := H.out.2.1.lt _ H.out.2.1.ownL; have h2 := HC6.out.size; show _ < _; omega
            have hadd1 : IntKind.i64.wrap (4 * (i : Int)) = 4 * (i : Int) := IntWalk.i64_in _ (by omega)
            have hadd2 : IntKind.i64.wrap ((first : Int) + 4 * (i : Int)) = (first : Int) + 4 * (i : Int) := IntWalk.i64_in _ (by omega)
            have hadd3 : IntKind.i64.wrap ((first : Int) + 4 * (i : Int) + (k : Int)) = (first : Int) + 4 * (i : Int) + (k : Int) := IntWalk.i64_in _ (by omega)
            have HWR := fun W => Lib.hid (fun hc : Chg No w6 W => write_calls ((H.out.1.chgNo HC6.out).chgNo hc) ((first : Int) + 4 * (i : Int) + (k : Int)) A6 (16 + ml) c6 (rgPg b n k) (HR6.out.chg hc (fun _ _ _ _ h => h)) (by omega))
            have hbase : ((first + 4 * i : Nat) : Int) + (k : Int) = (first : Int) + 4 * (i : Int) + (k : Int) := by omega
            rw [hbase] at hstep
            obtain ⟨er, her⟩ : ∃ er, er = Dk.writeE ((first : Int) + 4 * (i : Int) + (k : Int)) (rgPg b n k).length := ⟨_, rfl⟩
            rw [← her] at hstep
            simp only [← her] at HWR
            clear her
            clear hr6 hbase d0 d2
            go_wp2_with fail
            go_region_held3 (fun w' => w'.cell? ⟨t.L, 0, none⟩ = some (.pointer (some ⟨h.d, 0, none⟩)) ∧ w'.cell? ⟨t.L, 2, none⟩ = some (.int .i64 (first : Int))) (first | go_keep)
              ((go_at_call 74
                refine ((HWR _).out (by (repeat (first | (with_reducible exact Chg.refl _ _) | (with_reducible assumption) | (with_reducible refine Chg.drewN ?_ _) | (with_reducible refine Chg.drew ?_) | (with_reducible refine Chg.alloc ?_ _) | (with_reducible refine Chg.setCell ?_ (by first | (left; simp [DevH.foot]; done) | (right; simp; done) | (right; simp; omega)) _))))).mono ?_
                rintro e w7 ⟨rfl, hd7, hc7⟩
                have HD7 := Lib.hid hd7
                have HC7 : Hid (Chg h.foot w6 w7) := (by (repeat (first | (with_reducible exact Chg.refl _ _) | (with_reducible assumption) | (with_reducible refine Chg.drewN ?_ _) | (with_reducible refine Chg.drew ?_) | (with_reducible refine Chg.alloc ?_ _) | (with_reducible refine Chg.setCell ?_ (by first | (left; simp [DevH.foot]; done) | (right; simp; done) | (right; simp; omega)) _))) : Chg No w6 _).mono (fun _ _ h => h.elim) |>.trans hc7
                have HL7 := Lib.hid ((H.out.2.1.chgNo HC6.out).foot (H.out.1.chgNo HC6.out) HC7.out)
                clear hd7 hc7
                have e07 := HL7.out.box.cell 0
                have e27 := HL7.out.box.cell 2
                simp at e07 e27
                rw [← HFI.out] at e27))
            have HR7 : Hid (Rd w7 tU8 Ab nb (bys b)) := (H.out.2.2.1.chg HC6.out (fun _ _ _ _ h => h)).chg HC7.out (fun g cur fz hg => (H.out.1.chgNo HC6.out).not_foot hg (by decide) (by decide))
            have HCW : Hid (Chg h.foot w w7) := (H.out.2.2.2.1.then HC6.out (fun _ _ h => h.elim)).trans HC7.out
            by_cases he : er = 0
            · subst he
              have HST : Hid (Go.Proofs.YtplpbbdakihnfaaGreat.wr D ((first + 4 * i : Nat) : Int) n b = wrGo ((first + 4 * i : Nat) : Int) n b (k + 1) (4 - (k + 1)) (Dk.write ((first : Int) + 4 * (i : Int) + (k : Int)) (rgPg b n k))) := by show _ = _; rw [hstep.out, if_pos rfl]
              clear hstep
              go_wp2
              go_roundg (4 - (k + 1))
              case measure => omega
              case rel => exact ⟨k + 1, _, rfl, by omega, by go_num, HD7.out, HL7.out, HR7.out, HCW.out, HST.out⟩
            · have HST : Hid (Go.Proofs.YtplpbbdakihnfaaGreat.wr D ((first + 4 * i : Nat) : Int) n b = (Dk.write ((first : Int) + 4 * (i : Int) + (k : Int)) (rgPg b n k), er)) := by show _ = _; rw [hstep.out, if_neg he]
              have hb0 : (er != 0) = true := by simpa using he
              clear hstep
              go_wp2
              go_ret
              exact ⟨by rw [HST.out]; rfl, by rw [HST.out]; exact HD7.out, HCW.out⟩
          · have r1 : ¬ (nb : Int) < (k : Int) * 368 := by omega
            have r2 : ¬ (nb : Int) < ((k : Int) + 1) * 368 := by omega
            have hsl : pFrom nb k = (((k : Int) * 368)).toNat := by rw [pFrom_b g1]; omega
            have hsh : pFrom nb (k + 1) = ((((k : Int) + 1) * 368)).toNat := by rw [pFrom_b g2]; omega
            obtain ⟨A5, hs5, hd5⟩ := sub_slice (P := Tryz.prog) Tryz.underlying40 ti_u8 Ab nb cb (((k : Int) * 368)) ((((k : Int) + 1) * 368)) (by omega) (by omega) (by omega)
            have hs5' : ∀ W : World, (Instr.sliceAt tBytes (.slice Ab nb cb) (some (.int .i64 (((k : Int) * 368)))) (some (.int .i64 ((((k : Int) + 1) * 368)))) none).run Tryz.prog W = _ := fun W => (run_sliceAt_slice W tBytes _ _ _ _ Tryz.underlying40).trans (hs5 W)
            have hdd := (by omega : (((((k : Int) + 1) * 368))).toNat - ((((k : Int) * 368))).toNat = ml)
            rw [hdd] at hs5 hs5'
            have HD5 : Hid (∀ W, Rd W tU8 Ab nb (bys b) → Rd W tU8 A5 ml (bys (rgPart b k))) := fun W hW => by
              have h5 := hd5 W tU8 (bys b) (by simpa using hW) (by omega)
              rw [hdd, ← hsl] at h5
              simp only [Nat.mul_one] at h5
              rw [← bys_drop, ← bys_take, hpl, HPC.out, ← hpl] at h5
              exact h5
            have hsub : IntKind.i64.wrap ((((k : Int) + 1) * 368) - ((k : Int) * 368)) = (ml : Int) := by rw [IntWalk.i64_in _ (by omega)]; omega
            clear hd5 hsl hsh
            have hfm' := hfm
            clear hpl hfm hfl
            go_wp2_with fail
            refine (gmagic_calls _).mono ?_
            rintro e w2 ⟨rfl, rfl⟩
            have ow0 := own_cells wr tU8 #[.int .u8 82, .int .u8 71] 2 rfl (by simp [maxLen])
            have HOW0 := Lib.hid ow0
            have hku : IntKind.u8.wrap (k : Int) = (k : Int) := wraps_u8 _ (by omega) (by omega)
            have hmu : IntKind.u64.wrap (ml : Int) = (ml : Int) := wraps_u64 _ (by omega) (by omega)
            clear ow0
            go_wp2_with (first
              | (at_builtin; go_loud (refine wpList_app _ rfl (.tmp 40) (.tmp 43) tBytes rfl tU8 Tryz.underlying40 ti_u8 rfl (by omega) wr.heap.size _ 2 _ rfl (HOW0.out.alloc _) tU8 _ 2 2 [.int .u8 (k : Int), .int .u8 0] rfl (rd_four2 _ _ k) (by simp [Value.oneCell']) (by simp [maxLen]) (by omega) (by simp; omega) ?_); intro v3 w3 ho3 hg3 hb3; have HO3 := Lib.hid ho3; have HC3 : Hid (Chg No wr w3) := Chg.grown (by (repeat (first | (with_reducible exact Chg.refl _ _) | (with_reducible assumption) | (with_reducible refine Chg.drewN ?_ _) | (with_reducible refine Chg.drew ?_) | (with_reducible refine Chg.alloc ?_ _) | (with_reducible refine Chg.setCell ?_ (by first | (left; simp [DevH.foot]; done) | (right; simp; done) | (right; simp; omega)) _)))) hg3 (fun j hj => .inr (own_new HOW0.out j hj)); clear ho3 hg3 hb3))
            have HB4 : Hid ([Value.int .u8 82, .int .u8 71] ++ [.int .u8 (k : Int), .int .u8 0] = bys [82, 71, UInt8.ofNat k, 0]) := by
              show _ = _
              have : ((UInt8.ofNat k).toNat : Int) = (k : Int) := by rw [UInt8.toNat_ofNat']; omega
              simp [bys]; omega
            have HO3' : Hid (w3.ownsRow wr.heap.size tU8 1 v3 4 (bys [82, 71, UInt8.ofNat k, 0])) := by rw [← HB4.out]; exact HO3.out
            have HA4 := Lib.hid (gadd_callsI v3 wr.heap.size 4 (bys [82, 71, UInt8.ofNat k, 0]) (ml : Int) 4 w3 HO3'.out HC3.out.size (by omega) (by omega) (by omega) (by omega) (by omega))
            go_wp2_with fail
            refine HA4.out.mono ?_
            rintro e w4 ⟨v4, rfl, ho4, hc4⟩
            have HO4 : Hid (w4.ownsRow wr.heap.size tU8 1 v4 8 (bys ([82, 71, UInt8.ofNat k, 0] ++ le 4 ml))) := by rw [bys_append]; exact ho4
            have HC4 : Hid (Chg No wr w4) := HC3.out.then hc4 (fun j hj hS => by have : wr.heap.size ≤ j := hS; omega)
            clear ho4 hc4 HA4
            have HA8 := fun W => Lib.hid (fun hc : Chg No w4 W => gadd_callsI v4 wr.heap.size 8 (bys ([82, 71, UInt8.ofNat k, 0] ++ le 4 ml)) (n : Int) 8 W (own_chg HO4.out hc (fun _ _ h => h)) (by have h1 := HC4.out.size; have h2 := hc.size; omega) (by omega) (by omega) (by omega) (by omega) (by omega))
            go_wp2_with fail
            have h63 : 16 + ml ≤ maxLen := by simp only [maxLen]; omega
            have hby : (16 + ml) * 1 ≤ 140737488355328 := by omega
            go_region_held3 (fun w' => True) (trivial)
              ((first
                | (go_at_call 111
                   refine ((HA8 _).out (by (repeat (first | (with_reducible exact Chg.refl _ _) | (with_reducible assumption) | (with_reducible refine Chg.drewN ?_ _) | (with_reducible refine Chg.drew ?_) | (with_reducible refine Chg.alloc ?_ _) | (with_reducible refine Chg.setCell ?_ (by first | (left; simp [DevH.foot]; done) | (right; simp; done) | (right; simp; omega)) _))))).mono ?_
                   rintro e w5 ⟨v5, rfl, ho5, hc5⟩
                   have HC5 : Hid (Chg No wr w5) := (HC4.out.trans (by (repeat (first | (with_reducible exact Chg.refl _ _) | (with_reducible assumption) | (with_reducible refine Chg.drewN ?_ _) | (with_reducible refine Chg.drew ?_) | (with_reducible refine Chg.alloc ?_ _) | (with_reducible refine Chg.setCell ?_ (by first | (left; simp [DevH.foot]; done) | (right; simp; done) | (right; simp; omega)) _))))).then hc5 (fun j hj hS => by have : wr.heap.size ≤ j := hS; omega)
                   have HO5 : Hid (w5.ownsRow wr.heap.size tU8 1 v5 16 (bys (rgHead k n ml))) := by
                     have e16 : bys (rgHead k n ml) = bys ([82, 71, UInt8.ofNat k, 0] ++ le 4 ml) ++ bys (le 8 n) := by unfold rgHead; rw [← bys_append, List.append_assoc]
                     rw [e16]; exact ho5
                   clear ho5 hc5)
                | (have h5 := HD5.out w5 (H.out.2.2.1.chg HC5.out (fun _ _ _ _ h => h))
                   have h5' : Rd w5 tU8 A5 (ml * 1) (bys (rgPart b k)) := (Nat.mul_one ml).symm ▸ h5
                   refine step_app _ rfl (.tmp 52) (.tmp 56) tBytes rfl tU8 Tryz.underlying40 ti_u8 rfl Nat.one_pos wr.heap.size _ 16 _ rfl HO5.out tU8 A5 ml _ (bys (rgPart b k)) rfl h5' bys_one_cell h63 hby HC5.out.size ?_
                   intro v6 w6 ho6 hg6 hb6
                   have HC6 : Hid (Chg No wr w6) := Chg.grown HC5.out hg6 (fun j hj => .inr (own_new HO5.out j hj))
                   have HO6 : Hid (w6.ownsRow wr.heap.size tU8 1 v6 (16 + ml) (bys (rgPg b n k))) := by
                     unfold rgPg; rw [bys_append, ← HML.out]; exact ho6
                   clear ho6 hg6 hb6)))
            obtain ⟨A6, c6, rfl, hnc6, hr6⟩ := own_slice HO6.out
            have HR6 : Hid (Rd w6 tU8 A6 (16 + ml) (bys (rgPg b n k))) := by show Rd _ _ _ _ _; simpa using hr6
            have e0 := (HC6.out.toBelow.cell (p := ⟨t.L, 0, none⟩) (H.out.2.1.lt _ H.out.2.1.ownL)).trans d0
            have e2 := (HC6.out.toBelow.cell (p := ⟨t.L, 2, none⟩) (H.out.2.1.lt _ H.out.2.1.ownL)).trans d2
            have HLL : Hid (t.L < w6.heap.size) := by have h1 := H.out.2.1.lt _ H.out.2.1.ownL; have h2 := HC6.out.size; show _ < _; omega
            have hadd1 : IntKind.i64.wrap (4 * (i : Int)) = 4 * (i : Int) := IntWalk.i64_in _ (by omega)
            have hadd2 : IntKind.i64.wrap ((first : Int) + 4 * (i : Int)) = (first : Int) + 4 * (i : Int) := IntWalk.i64_in _ (by omega)
            have hadd3 : IntKind.i64.wrap ((first : Int) + 4 * (i : Int) + (k : Int)) = (first : Int) + 4 * (i : Int) + (k : Int) := IntWalk.i64_in _ (by omega)
            have HWR := fun W => Lib.hid (fun hc : Chg No w6 W => write_calls ((H.out.1.chgNo HC6.out).chgNo hc) ((first : Int) + 4 * (i : Int) + (k : Int)) A6 (16 + ml) c6 (rgPg b n k) (HR6.out.chg hc (fun _ _ _ _ h => h)) (by omega))
            have hbase : ((first + 4 * i : Nat) : Int) + (k : Int) = (first : Int) + 4 * (i : Int) + (k : Int) := by omega
            rw [hbase] at hstep
            obtain ⟨er, her⟩ : ∃ er, er = Dk.writeE ((first : Int) + 4 * (i : Int) + (k : Int)) (rgPg b n k).length := ⟨_, rfl⟩
            rw [← her] at hstep
            simp only [← her] at HWR
            clear her
            clear hr6 hbase d0 d2
            go_wp2_with fail
            go_region_held3 (fun w' => w'.cell? ⟨t.L, 0, none⟩ = some (.pointer (some ⟨h.d, 0, none⟩)) ∧ w'.cell? ⟨t.L, 2, none⟩ = some (.int .i64 (first : Int))) (first | go_keep)
              ((go_at_call 74
                refine ((HWR _).out (by (repeat (first | (with_reducible exact Chg.refl _ _) | (with_reducible assumption) | (with_reducible refine Chg.drewN ?_ _) | (with_reducible refine Chg.drew ?_) | (with_reducible refine Chg.alloc ?_ _) | (with_reducible refine Chg.setCell ?_ (by first | (left; simp [DevH.foot]; done) | (right; simp; done) | (right; simp; omega)) _))))).mono ?_
                rintro e w7 ⟨rfl, hd7, hc7⟩
                have HD7 := Lib.hid hd7
                have HC7 : Hid (Chg h.foot w6 w7) := (by (repeat (first | (with_reducible exact Chg.refl _ _) | (with_reducible assumption) | (with_reducible refine Chg.drewN ?_ _) | (with_reducible refine Chg.drew ?_) | (with_reducible refine Chg.alloc ?_ _) | (with_reducible refine Chg.setCell ?_ (by first | (left; simp [DevH.foot]; done) | (right; simp; done) | (right; simp; omega)) _))) : Chg No w6 _).mono (fun _ _ h => h.elim) |>.trans hc7
                have HL7 := Lib.hid ((H.out.2.1.chgNo HC6.out).foot (H.out.1.chgNo HC6.out) HC7.out)
                clear hd7 hc7
                have e07 := HL7.out.box.cell 0
                have e27 := HL7.out.box.cell 2
                simp at e07 e27
                rw [← HFI.out] at e27))
            have HR7 : Hid (Rd w7 tU8 Ab nb (bys b)) := (H.out.2.2.1.chg HC6.out (fun _ _ _ _ h => h)).chg HC7.out (fun g cur fz hg => (H.out.1.chgNo HC6.out).not_foot hg (by decide) (by decide))
            have HCW : Hid (Chg h.foot w w7) := (H.out.2.2.2.1.then HC6.out (fun _ _ h => h.elim)).trans HC7.out
            by_cases he : er = 0
            · subst he
              have HST : Hid (Go.Proofs.YtplpbbdakihnfaaGreat.wr D ((first + 4 * i : Nat) : Int) n b = wrGo ((first + 4 * i : Nat) : Int) n b (k + 1) (4 - (k + 1)) (Dk.write ((first : Int) + 4 * (i : Int) + (k : Int)) (rgPg b n k))) := by show _ = _; rw [hstep.out, if_pos rfl]
              clear hstep
              go_wp2
              go_roundg (4 - (k + 1))
              case measure => omega
              case rel => exact ⟨k + 1, _, rfl, by omega, by go_num, HD7.out, HL7.out, HR7.out, HCW.out, HST.out⟩
            · have HST : Hid (Go.Proofs.YtplpbbdakihnfaaGreat.wr D ((first + 4 * i : Nat) : Int) n b = (Dk.write ((first : Int) + 4 * (i : Int) + (k : Int)) (rgPg b n k), er)) := by show _ = _; rw [hstep.out, if_neg he]
              have hb0 : (er != 0) = true := by simpa using he
              clear hstep
              go_wp2
              go_ret
              exact ⟨by rw [HST.out]; rfl, by rw [HST.out]; exact HD7.out, HCW.out⟩
      · obtain rfl : k = 4 := by omega
        have d0 := H.out.2.1.box.cell 0
        simp at d0
        have HF := Lib.hid (flush_calls H.out.1)
        have HE : Hid (Go.Proofs.YtplpbbdakihnfaaGreat.wr D ((first + 4 * i : Nat) : Int) n b = (Dk.flush, Dk.changeE)) := H.out.2.2.2.2
        clear hlt
        go_wp2_with fail
        refine HF.out.mono ?_
        rintro e w2 ⟨rfl, hd2, hc2⟩
        have HD2 := Lib.hid hd2
        have HC2 := Lib.hid hc2
        clear hd2 hc2
        go_wp2
        go_ret
        exact ⟨by rw [HE.out]; rfl, by rw [HE.out]; exact HD2.out, H.out.2.2.2.1.trans HC2.out⟩
end
end Go.Proofs.YtplpbbdakihnfaaGreat
end
