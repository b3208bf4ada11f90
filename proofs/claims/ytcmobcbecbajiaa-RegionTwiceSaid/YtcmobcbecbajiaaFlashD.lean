/- The flash device's Flush. -/
import Derived.Test.YtcmobcbecbajiaaFlashC
import Derived.Test.YtcmobcbecbajiaaRange
import Derived.Deep.LoopGhost
namespace Go.Proofs.Ytcmobcbecbajiaa
open Go.RowKit
open Go.ChangeMaps (setBlock)
set_option linter.unusedSimpArgs false
set_option linter.unusedVariables false

/-- the row while what waits is being laid into it: 'left' is still to come -/
def flcur (D : Dev) (left : List (Int × Value)) : Nat → Pg := fun i => if (aget left (i : Int)).isSome then D.fl i else (D.wt i).getD (D.fl i)

/-- what holds of the world in Flush's loop, 'left' being still to come -/
structure Flushing (h : DevH) (D : Dev) (w1 wr : World) (es left : List (Int × Value)) (ps : List Value) : Prop where
  rng : Ranging ikey wr h.M w1.heap.size left
  sub : ∀ k v, aget left k = some v → aget es k = some v
  blk : Blk wr h.F tPP ps.toArray
  row : RowAt wr.heap.size wr ps D.n (flcur D left)
  map : MapIs ikey wr h.M es
  chg : Chg (fun k => k = h.F) w1 wr
  big : w1.heap.size < wr.heap.size

theorem PgAt.ptr {N : Nat} {w : World} {v : Value} {p : Pg} (h : PgAt N w v p) : ∃ q, v = .pointer q := by
  cases p with
  | blank => exact ⟨_, h⟩
  | torn => obtain ⟨p, _, hv, _⟩ := h; exact ⟨_, hv⟩
  | full b => obtain ⟨p, q, _, _, hv, _⟩ := h; exact ⟨_, hv⟩

theorem flushing_step {h : DevH} {D : Dev} {N : Nat} {w1 wr wr2 : World} {es left : List (Int × Value)} {ps : List Value} (hd : DevN N w1 h D) (hes : WaitAt N w1 es D.n D.wt) (H : Flushing h D w1 wr es left ps) {k : Int} {v : Value}
    (hg : aget left k = some v) (hr : Ranging ikey wr2 h.M w1.heap.size (adel left k)) (hc : Chg (fun i => i = w1.heap.size) wr wr2) (hs : wr2.heap.size = wr.heap.size) (hnd : (akeys left).Nodup) :
    ∃ (i : Nat) (q : Option Addr), k = (i : Int) ∧ v = .pointer q ∧ i < D.n ∧ i < ps.length ∧ Flushing h D w1 (wr2.setCell ⟨h.F, i, none⟩ v) es (adel left k) (ps.set i v) := by
  obtain ⟨nF, nM, nMF⟩ := hd.apart
  have hbig := H.big
  have hFne : h.F ≠ w1.heap.size := by
    obtain ⟨ps, g, _⟩ := hd.row
    have := g.lt
    omega
  have hMne : h.M ≠ w1.heap.size := by
    obtain ⟨es, g, _⟩ := hd.map
    have := g.lt
    omega
  obtain ⟨i, pg, e1, e2, e3, e4⟩ := hes.1 k v (aget_mem (H.sub k v hg))
  subst e1
  have hlen := H.row.1
  have hcF : Chg (fun j => j = h.F) wr2 (wr2.setCell ⟨h.F, i, none⟩ v) := chg_setCell wr2 ⟨h.F, i, none⟩ v
  have hb2 : Blk wr2 h.F tPP ps.toArray := H.blk.chg hc hFne
  have hc2 : Chg (fun k => k = h.F) w1 (wr2.setCell ⟨h.F, i, none⟩ v) := (H.chg.then (T := fun i => i = w1.heap.size) hc (by intro j hj e; omega)).trans hcF
  have hkeep : ∀ g cs t, g < N → (t = tPage ∨ t = tU8) → Blk w1 g t cs → ¬ g = h.F := fun g cs t _ ht hb e => by
    refine hd.not_foot hb ?_ ?_ (.inr (.inl e)) <;> rcases ht with rfl | rfl <;> decide
  have hkeep2 : ∀ g cs t, g < wr.heap.size → (t = tPage ∨ t = tU8) → Blk wr g t cs → ¬ (g = h.F ∨ g = w1.heap.size) := fun g cs t _ ht hb e => by
    rcases e with rfl | rfl
    · have := hb.ne_ H.blk (by rcases ht with rfl | rfl <;> decide)
      exact this rfl
    · exact H.rng.not_blk hb rfl
  obtain ⟨q, hq⟩ := e4.ptr
  refine ⟨i, q, rfl, hq, e2, by omega, { rng := hr.chg hcF (fun e => nMF e) (fun e => hFne e.symm), sub := ?_, blk := ?_, row := ⟨by simpa using hlen, ?_⟩, map := (H.map.chg hc hMne).chg hcF (fun e => nMF e), chg := hc2, big := by simp [hs]; exact hbig }⟩
  · intro k' v' h'
    rw [aget_adel left hnd] at h'
    split at h'
    · cases h'
    · exact H.sub k' v' h'
  · have := hb2.set_ i v
    simpa using this
  · intro j u hu
    have hflj : ∀ j : Nat, j ≠ i → flcur D (adel left (i : Int)) j = flcur D left j := by
      intro j hj
      show (if (aget (adel left (i : Int)) (j : Int)).isSome then D.fl j else (D.wt j).getD (D.fl j)) = _
      have hne : ¬ ((i : Int) = (j : Int)) := by omega
      rw [aget_adel left hnd, if_neg hne]
      rfl
    rw [List.getElem?_set] at hu
    split at hu
    · rename_i hij
      subst hij
      split at hu
      · injection hu with hu
        subst hu
        have : flcur D (adel left (i : Int)) i = pg := by simp [flcur, aget_adel left hnd, e3]
        rw [this]
        refine (e4.chg hc2 hkeep).mono ?_
        have := hd.below
        simp [hs]; omega
      · cases hu
    · rename_i hij
      rw [hflj j (fun e => hij e.symm)]
      have h1 := H.row.2 j u hu
      have hcc : Chg (fun g => g = h.F ∨ g = w1.heap.size) wr (wr2.setCell ⟨h.F, i, none⟩ v) := (hc.mono (fun k _ e => .inr e)).trans (hcF.mono (fun k _ e => .inl e))
      refine (h1.chg hcc hkeep2).mono (by simp [hs])

theorem adel_length {κ V : Type} [DecidableEq κ] {l : List (κ × V)} {k : κ} {v : V} (h : aget l k = some v) : (adel l k).length + 1 = l.length := by
  induction l with
  | nil => simp [aget] at h
  | cons p r ih =>
    simp only [aget] at h
    simp only [adel]
    split
    · simp
    · rename_i hne
      rw [if_neg hne] at h
      simp [ih h]

theorem flush_calls {N : Nat} {w : World} {h : DevH} {D : Dev} (hd : DevN N w h D) :
    Calls Try.prog 42 #[.pointer (some ⟨h.d, 0, none⟩)] w fun e w' => e = .returned (.int .i64 D.changeE) ∧ DevAt w' h D.flush ∧ Chg h.foot w w' := by
  have hspend := Lib.hid (spend_calls hd)
  by_cases c0 : D.spent = true
  · rw [show D.changeE = 0 from by simp [Dev.changeE, c0], show D.flush = D.spend.settled from by simp [Dev.flush, c0]]
    rw [c0] at hspend
    go_enter Try.func42, Try.ntmps42
    go_wp2_with fail
    refine hspend.out.mono ?_
    rintro e w1 ⟨rfl, hd1, hc1⟩
    have HC1 := Lib.hid hc1
    have HD1 := Lib.hid hd1
    obtain ⟨D1, hD1⟩ : ∃ D1, D1 = D.spend := ⟨_, rfl⟩
    rw [← hD1] at hd1 HD1
    have HDE := Lib.hid hD1
    clear c0 hspend hd hc1 hD1
    obtain ⟨a, b, c, e, hb⟩ := hd1.box
    have hm1 := hb.cell 1
    simp at hm1
    obtain ⟨es, hm, hes⟩ := hd1.map
    obtain ⟨ps0, hF, hrow⟩ := hd1.row
    have HB := Lib.hid hb
    have HES := Lib.hid hes
    have HM := Lib.hid hm
    have HF := Lib.hid hF
    have HR := Lib.hid hrow
    have HN := Lib.hid hd1.nmost
    clear hb hes hm hF hrow hd1
    go_wp2_with (first
      | (at_range; refine wpList_rng _ rfl _ _ rfl Try.underlying77 h.M es rfl HM.out ?_; intro w2 hrng hc2 hs2; have HRNG := Lib.hid hrng; have HC2 := Lib.hid hc2; have HS2 := Lib.hid hs2; clear hrng hc2 hs2))
    go_frame
    go_loopg [] (es.length) (fun g wr => ∃ left ps, left.length = g ∧ Flushing h D1 w1 wr es left ps)
    case atStart =>
      refine ⟨es, ps0, rfl, { rng := HRNG.out, sub := fun _ _ h => h, blk := HF.out.chg HC2.out (fun h => h), row := ⟨HR.out.1, ?_⟩, map := HM.out.chg HC2.out (fun h => h), chg := HC2.out.mono (fun _ _ h => h.elim), big := by have := HS2.out; omega }⟩
      intro i v hv
      have h1 := HR.out.2 i v hv
      have h2 : PgAt w2.heap.size w2 v (D1.fl i) := (h1.chg HC2.out (fun _ _ _ _ _ _ h => h)).mono HC2.out.size
      have : flcur D1 es i = D1.fl i := by
        simp only [flcur]
        split
        · rfl
        · rename_i hn
          have : D1.wt i = none := by
            cases hw : D1.wt i with
            | none => rfl
            | some pg => obtain ⟨v, hv⟩ := HES.out.2 i pg hw; rw [hv] at hn; simp at hn
          simp [this]
      rw [this]; exact h2
    case round =>
      obtain ⟨left, ps, hl, H⟩ := hrel
      have HH := Lib.hid H
      have H0 := Lib.hid H
      have HL := Lib.hid hl
      have hd0 : wr.cell? ⟨h.d, 0, none⟩ = some (.slice (some ⟨h.F, 0, none⟩) D1.n D1.n) := by
        have := (HB.out.chg H.chg (by have := HD1.out.apart; intro e; exact this.1 e.symm)).cell 0
        simpa using this
      have hd1' : wr.cell? ⟨h.d, 1, none⟩ = some (.map (some h.M)) := by
        have := (HB.out.chg H.chg (by have := HD1.out.apart; intro e; exact this.1 e.symm)).cell 1
        simpa using this
      clear H hl hm1
      go_wp2_with (first
        | (at_next; refine wpList_nxt _ rfl _ rfl h.M w1.heap.size left rfl HH.out.rng ?_ ?_))
      · intro hleft
        have HLE := Lib.hid hleft
        clear hleft
        obtain ⟨o, hrun, hmc⟩ := HH.out.map.clear (P := Try.prog) (ty := 0) Try.underlying77
        obtain ⟨w3, hw3⟩ : ∃ w3, w3 = setBlock wr h.M o := ⟨_, rfl⟩
        have hc3 : Chg (fun i => i = h.M) wr w3 := by rw [hw3]; exact chg_setBlock _ _ _
        rw [← hw3] at hrun hmc
        clear hw3
        have AP := Lib.hid HD1.out.apart
        have hbr := HB.out.chg H0.out.chg (by intro e; exact AP.out.1 e.symm)
        have hb3 := hbr.chg hc3 (fun e => AP.out.2.1 e.symm)
        have h6 := hb3.cell 6
        simp at h6
        have f6 := hb3.frozen 6
        have hfd : Chg h.foot w1 (w3.setCell ⟨h.d, 6, none⟩ (.int .i64 (wrap64 (b + 1)))) :=
          (H0.out.chg.mono (fun k _ e => .inr (.inl e))).trans ((hc3.mono (fun k _ e => .inr (.inr e))).trans ((chg_setCell w3 ⟨h.d, 6, none⟩ _).mono (fun k _ e => .inl e)))
        have fin : DevAt (w3.setCell ⟨h.d, 6, none⟩ (.int .i64 (wrap64 (b + 1)))) h D1.settled := by
          refine HD1.out.step hfd rfl ⟨a, wrap64 (b + 1), c, e, ?_⟩ (.inl ⟨ps, ?_, H0.out.row.1, ?_⟩) (.inl ⟨[], ?_, ?_, ?_⟩) HD1.out.armed
          · have := hb3.set_ 6 (.int .i64 (wrap64 (b + 1)))
            simpa [Dev.settled] using this
          · exact (H0.out.blk.chg hc3 (fun e => AP.out.2.2 e.symm)).chg (chg_setCell w3 ⟨h.d, 6, none⟩ _) AP.out.1
          · intro i v hv
            have h1 := H0.out.row.2 i v hv
            have e1 : flcur D1 left i = D1.settled.fl i := by rw [HLE.out]; simp [flcur, aget, Dev.settled]
            rw [e1] at h1
            have hcc : Chg (fun g => g = h.M ∨ g = h.d) wr (w3.setCell ⟨h.d, 6, none⟩ (.int .i64 (wrap64 (b + 1)))) := (hc3.mono (fun k _ e => .inl e)).trans ((chg_setCell w3 ⟨h.d, 6, none⟩ _).mono (fun k _ e => .inr e))
            refine (h1.chg hcc ?_).mono hcc.size
            intro g cs t _ ht hb e
            rcases e with rfl | rfl
            · exact H0.out.map.ne_blk hb rfl
            · exact hb.ne_ hbr (by rcases ht with rfl | rfl <;> decide) rfl
          · exact hmc.chg (chg_setCell w3 ⟨h.d, 6, none⟩ _) AP.out.2.1
          · intro k v h; cases h
          · intro i pg h; cases h
        have F : Hid (DevAt (w3.setCell ⟨h.d, 6, none⟩ (.int .i64 (wrap64 (b + 1)))) h D1.settled ∧ Chg h.foot w (w3.setCell ⟨h.d, 6, none⟩ (.int .i64 (wrap64 (b + 1))))) := ⟨fin, HC1.out.trans hfd⟩
        clear fin hfd hb3 hbr hmc hc3
        go_wp2
        go_ret
        exact ⟨rfl, by rw [← HDE.out]; exact F.out⟩
      · intro k v wr2 hg hr hc hs hen
        have hnd : (akeys left).Nodup := by
          obtain ⟨_, _, _, _, _, _, _, _, h⟩ := H0.out.rng
          exact h
        obtain ⟨i, q, rfl, rfl, hin, hip, HS⟩ := flushing_step HD1.out HES.out H0.out hg hr hc hs hnd
        have HSS := Lib.hid HS
        have HLN : Hid ((adel left (i : Int)).length < gk) := by
          have := adel_length hg
          show _ < _
          rw [← HL.out]; omega
        have hd0' : wr2.cell? ⟨h.d, 0, none⟩ = some (.slice (some ⟨h.F, 0, none⟩) D1.n D1.n) := by
          have hne : h.d ≠ w1.heap.size := by have := HB.out.lt; omega
          rw [← hd0]
          exact World.cell?_of_block (hc.block h.d (by have := HB.out.lt; have := H0.out.big; omega) hne)
        have hFb : Blk wr2 h.F tPP ps.toArray := H0.out.blk.chg hc (by have := HF.out.lt; omega)
        have hFc : (wr2.cell? ⟨h.F, i, none⟩).isSome = true := by
          rw [hFb.cell i]
          simp [hip]
        obtain ⟨old, hold⟩ := Option.isSome_iff_exists.1 hFc
        have hFf := hFb.frozen i
        have hni : (i : Int) < (D1.n : Int) := by omega
        clear HS hFb hFc hg hr hc hs hnd hip hd0
        go_wp2
        go_roundg (adel left (i : Int)).length
        case measure => exact HLN.out
        case rel => exact ⟨_, _, rfl, HSS.out⟩
  · have c1 : D.spent = false := by simpa using c0
    rw [show D.changeE = 4 from by simp [Dev.changeE, c1], show D.flush = D.spend from by simp [Dev.flush, c1]]
    rw [c1] at hspend
    clear c0 c1
    go_enter Try.func42, Try.ntmps42
    go_wp2_with fail
    refine hspend.out.mono ?_
    rintro e w1 ⟨rfl, hd1, hc1⟩
    have F := Lib.hid (And.intro hd1 hc1)
    clear hd1 hc1 hspend hd
    go_wp2
    go_ret
    exact ⟨rfl, F.out⟩
end Go.Proofs.Ytcmobcbecbajiaa
