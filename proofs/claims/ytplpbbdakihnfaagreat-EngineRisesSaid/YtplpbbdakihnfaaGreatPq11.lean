/- Packed texts: TombC, TombD. -/
import Derived.Test.YtplpbbdakihnfaaGreatPq04
import Derived.Test.YtplpbbdakihnfaaGreatPq01
import Derived.Test.YtplpbbdakihnfaaGreatPq10
import Derived.Deep.QuietTactic
import Derived.BigQuiet
import Derived.Test.YtplpbbdakihnfaaGreatPq08
import Derived.StillTailTactics
set_option linter.unusedSimpArgs false
set_option linter.unusedVariables false
section
namespace Go.Proofs.YtplpbbdakihnfaaGreat
open Go.RowKit
open Go.ChangeMaps (setBlock)
attribute [local go_sem ↓] Go.wp_at_zero Go.wp_at_succ
abbrev tJn : TypeId := 117
abbrev tJm : TypeId := 115
abbrev ukey : Int → Value := fun n => .int .u64 n
def jes (ms : Marks) : List (Int × Value) := ms.map fun p => (p.1, .int .u64 p.2)
theorem aget_jes (ms : Marks) (k : Int) : aget (jes ms) k = (aget ms k).map fun v => .int .u64 v := by
  induction ms with
  | nil => rfl
  | cons p r ih =>
    simp only [jes, List.map_cons, aget] at ih ⊢
    split
    · rfl
    · exact ih
theorem aset_jes (ms : Marks) (k : Int) (v : Nat) : aset (jes ms) k (.int .u64 v) = jes (aset ms k v) := by
  induction ms with
  | nil => rfl
  | cons p r ih =>
    simp only [jes, List.map_cons, aset] at ih ⊢
    split
    · rfl
    · rw [List.map_cons, ih]
structure JnH where
  J : Nat
  M : Nat
structure JnAt (w : World) (h : DevH) (t : JnH) (J : Jn) : Prop where
  box : Blk w t.J tJn #[.pointer (some ⟨h.d, 0, none⟩), .int .i64 J.losses, .int .i64 J.first, .int .i64 J.pages, .int .u64 J.gen, .int .i64 J.used, .map (some t.M)]
  map : MapIs ukey w t.M (jes J.marks)
  fit : J.first + J.pages ≤ 4096
  used : J.used ≤ J.pages
  gen : J.gen < 18446744073709551616
  far : t.M ≠ h.M
def noteOf (ms : Marks) (kx vx : Nat) (o : Option Nat) : Marks := match o with
  | some v => if v < vx then aset ms (kx : Int) vx else ms
  | none => aset ms (kx : Int) vx
def goneOf (o : Option Nat) (ver : Nat) : Bool := match o with
  | some v => decide (ver ≤ v)
  | none => false
def JnH.own (t : JnH) : Nat → Prop := fun k => k = t.J ∨ k = t.M
section
variable {S : Nat → Prop} {w w' : World} {h : DevH} {t : JnH} {J : Jn}
theorem JnAt.chg (hj : JnAt w h t J) (hc : Chg S w w') (hn : ∀ k, t.own k → ¬ S k) : JnAt w' h t J :=
  { hj with box := hj.box.chg hc (hn _ (.inl rfl)), map := hj.map.chg hc (hn _ (.inr rfl)) }
theorem JnAt.chgNo (hj : JnAt w h t J) (hc : Chg No w w') : JnAt w' h t J := hj.chg hc (fun _ _ h => h)
theorem JnAt.foot {N : Nat} {D : Dev} (hj : JnAt w h t J) (hd : DevN N w h D) (hc : Chg h.foot w w') : JnAt w' h t J := by
  refine hj.chg hc (fun k hk hf => ?_)
  rcases hk with rfl | rfl
  · exact hd.not_foot hj.box (by decide) (by decide) hf
  · rcases hf with hf | hf | hf
    · obtain ⟨a, b, c, e, hb⟩ := hd.box
      exact hj.map.ne_blk hb hf
    · obtain ⟨ps, hb, _⟩ := hd.row
      exact hj.map.ne_blk hb hf
    · exact hj.far hf
theorem JnAt.mapped (hj : JnAt w h t J) (hc : Chg (fun k => k = t.M) w w') {ms : Marks} (hm : MapIs ukey w' t.M (jes ms)) : JnAt w' h t { J with marks := ms } :=
  ⟨hj.box.chg hc (fun e => hj.map.ne_blk hj.box e.symm), hm, hj.fit, hj.used, hj.gen, hj.far⟩
theorem zero_u64 (W : World) : (zeroValue 28).run Tryz.prog W = .ok (.int .u64 0) W := by kernel_rfl
theorem look_jn {ms : Marks} {M : Nat} (hm : MapIs ukey w M (jes ms)) (k : Int) : (Instr.lookup tJm (.map (some M)) (.int .u64 k) true).run Tryz.prog w = .ok (.tuple #[.int .u64 ((aget ms k).getD 0 : Nat), .bool (aget ms k).isSome]) w := by
  have := hm.lookup (P := Tryz.prog) (keyLaw_int (Tryz.underlying28)) Tryz.underlying115 (zero_u64 w) k true
  rw [aget_jes] at this
  rw [if_pos rfl] at this
  cases hk : aget ms k <;> rw [hk] at this <;> exact this
set_option maxRecDepth 100000 in
set_option maxHeartbeats 4000000 in
theorem gone_calls (hj : JnAt w h t J) (key ver : Nat) :
    Calls Tryz.prog 78 #[.pointer (some ⟨t.J, 0, none⟩), .int .u64 key, .int .u64 ver] w fun e w' => e = .returned (.bool (J.gone key ver)) ∧ Chg No w w' := by
  have c6 := hj.box.cell 6
  simp at c6
  have hlk : ∀ n, (Instr.lookup tJm (.map (some t.M)) (.int .u64 key) true).run Tryz.prog (w.drewN n) = .ok (.tuple #[.int .u64 ((aget J.marks (key : Int)).getD 0 : Nat), .bool (aget J.marks (key : Int)).isSome]) (w.drewN n) := fun n => look_jn (hj.map.drewN n) _
  have hlk0 : (Instr.lookup tJm (.map (some t.M)) (.int .u64 key) true).run Tryz.prog w = .ok (.tuple #[.int .u64 ((aget J.marks (key : Int)).getD 0 : Nat), .bool (aget J.marks (key : Int)).isSome]) w := look_jn hj.map _
  have HG : Hid (J.gone key ver = goneOf (aget J.marks (key : Int)) ver) := rfl
  obtain ⟨o, ho⟩ : ∃ o, o = aget J.marks (key : Int) := ⟨_, rfl⟩
  rw [← ho] at hlk hlk0 HG
  clear ho hj
  cases o with
  | none =>
    rw [HG.out, show goneOf none ver = false from rfl]
    go_enter Tryz.func78, Tryz.ntmps78
    go_wp2
    go_ret
    exact ⟨rfl, by (repeat (first | (with_reducible exact Chg.refl _ _) | (with_reducible assumption) | (with_reducible refine Chg.drewN ?_ _) | (with_reducible refine Chg.drew ?_) | (with_reducible refine Chg.alloc ?_ _) | (with_reducible refine Chg.setCell ?_ (by first | (left; simp [DevH.foot]; done) | (right; simp; done) | (right; simp; omega)) _)))⟩
  | some v =>
    rw [HG.out]
    by_cases hv : ver ≤ v
    · have hvi : (ver : Int) ≤ (v : Int) := by omega
      rw [show goneOf (some v) ver = true from decide_eq_true hv]
      go_enter Tryz.func78, Tryz.ntmps78
      go_wp2
      go_ret
      exact ⟨rfl, by (repeat (first | (with_reducible exact Chg.refl _ _) | (with_reducible assumption) | (with_reducible refine Chg.drewN ?_ _) | (with_reducible refine Chg.drew ?_) | (with_reducible refine Chg.alloc ?_ _) | (with_reducible refine Chg.setCell ?_ (by first | (left; simp [DevH.foot]; done) | (right; simp; done) | (right; simp; omega)) _)))⟩
    · have hvi : ¬ (ver : Int) ≤ (v : Int) := by omega
      rw [show goneOf (some v) ver = false from decide_eq_false hv]
      go_enter Tryz.func78, Tryz.ntmps78
      go_wp2
      go_ret
      exact ⟨rfl, by (repeat (first | (with_reducible exact Chg.refl _ _) | (with_reducible assumption) | (with_reducible refine Chg.drewN ?_ _) | (with_reducible refine Chg.drew ?_) | (with_reducible refine Chg.alloc ?_ _) | (with_reducible refine Chg.setCell ?_ (by first | (left; simp [DevH.foot]; done) | (right; simp; done) | (right; simp; omega)) _)))⟩
theorem room_calls (hj : JnAt w h t J) :
    Calls Tryz.prog 81 #[.pointer (some ⟨t.J, 0, none⟩)] w fun e w' => e = .returned (.int .i64 J.room) ∧ Chg No w w' := by
  have c3 := hj.box.cell 3
  have c5 := hj.box.cell 5
  simp at c3 c5
  have hu := hj.used
  have hf := hj.fit
  have hr : ((J.room : Nat) : Int) = (J.pages : Int) - (J.used : Int) := by unfold Jn.room; omega
  have hew : IntKind.i64.wrap ((J.pages : Int) - (J.used : Int)) = (J.pages : Int) - (J.used : Int) := IntWalk.i64_in _ (by omega)
  rw [hr]
  clear hj hr
  go_enter Tryz.func81, Tryz.ntmps81
  go_wp2_with fail
  go_quiet (fail)
  go_wp2
  go_ret
  exact ⟨rfl, by (repeat (first | (with_reducible exact Chg.refl _ _) | (with_reducible assumption) | (with_reducible refine Chg.drewN ?_ _) | (with_reducible refine Chg.drew ?_) | (with_reducible refine Chg.alloc ?_ _) | (with_reducible refine Chg.setCell ?_ (by first | (left; simp [DevH.foot]; done) | (right; simp; done) | (right; simp; omega)) _)))⟩
set_option maxRecDepth 100000 in
set_option maxHeartbeats 4000000 in
theorem begin_calls {a b c d : Value} {u : Value} {M0 M1 : Value} (hb : Blk w t.J tJn #[a, b, c, d, u, M0, M1]) (gen : Nat) :
    Calls Tryz.prog 59 #[.pointer (some ⟨t.J, 0, none⟩), .int .u64 gen] w fun e w' => e = .returned (.tuple #[]) ∧ Blk w' t.J tJn #[a, b, c, d, .int .u64 gen, .int .i64 0, .map (some w.heap.size)] ∧ MapIs ukey w' w.heap.size (jes []) ∧ Chg (fun k => k = t.J) w w' := by
  have f4 := hb.frozen 4
  have f5 := hb.frozen 5
  have f6 := hb.frozen 6
  have c4 := hb.cell 4
  have c5 := hb.cell 5
  have c6 := hb.cell 6
  simp at c4 c5 c6
  have HB := Lib.hid hb
  have hlt := hb.lt
  have hmm := @run_makeMap Tryz.prog
  clear hb
  go_enter Tryz.func59, Tryz.ntmps59
  go_wp2
  go_end0
  refine ⟨rfl, ?_, ?_, ?_⟩
  · have h4 : Blk (w.setCell ⟨t.J, 4, none⟩ (.int .u64 gen)) t.J tJn #[a, b, c, d, .int .u64 gen, M0, M1] := by have := HB.out.set_ 4 (.int .u64 gen); simpa using this
    have h5 : Blk ((w.setCell ⟨t.J, 4, none⟩ (.int .u64 gen)).setCell ⟨t.J, 5, none⟩ (.int .i64 0)) t.J tJn #[a, b, c, d, .int .u64 gen, .int .i64 0, M1] := by have := h4.set_ 5 (.int .i64 0); simpa using this
    have h6 := h5.set_ 6 (.map (some w.heap.size))
    have h7 : Blk (((w.setCell ⟨t.J, 4, none⟩ (.int .u64 gen)).setCell ⟨t.J, 5, none⟩ (.int .i64 0)).setCell ⟨t.J, 6, none⟩ (.map (some w.heap.size))) t.J tJn #[a, b, c, d, .int .u64 gen, .int .i64 0, .map (some w.heap.size)] := by simpa using h6
    exact h7.alloc _
  · have := MapIs.made ukey (((w.setCell ⟨t.J, 4, none⟩ (.int .u64 gen)).setCell ⟨t.J, 5, none⟩ (.int .i64 0)).setCell ⟨t.J, 6, none⟩ (.map (some w.heap.size)))
    simp only [World.size_setCell] at this
    exact this
  · have h4 : Chg (fun k => k = t.J) w (w.setCell ⟨t.J, 4, none⟩ (.int .u64 gen)) := chg_setCell w ⟨t.J, 4, none⟩ _
    have h5 := Chg.setCell h4 (p := ⟨t.J, 5, none⟩) (.inl rfl) (.int .i64 0)
    exact (Chg.setCell h5 (p := ⟨t.J, 6, none⟩) (.inl rfl) (.map (some w.heap.size))).alloc _
theorem note_step (ms : Marks) (m : Mk) : note1 ms m = match aget ms (m.1 : Int) with
    | some v => if v < m.2 then aset ms (m.1 : Int) m.2 else ms
    | none => aset ms (m.1 : Int) m.2 := rfl
theorem note_take {l : List Mk} {k : Nat} {m : Mk} (ms : Marks) (h : l[k]? = some m) : note ms (l.take (k + 1)) = note1 (note ms (l.take k)) m := by
  unfold note
  rw [List.take_add_one, h, Option.toList, List.foldl_append]; rfl
set_option maxRecDepth 100000 in
set_option maxHeartbeats 4000000 in
theorem note_calls (hj : JnAt w h t J) (A : Option Addr) (n c : Nat) (l : List Mk) (te : TypeId) (hn : l.length = n) (hr : Rd w te A (n * 2) (mks l)) (hm : n ≤ 1000000) :
    Calls Tryz.prog 65 #[.pointer (some ⟨t.J, 0, none⟩), .slice A n c] w fun e w' => e = .returned (.tuple #[]) ∧ JnAt w' h t { J with marks := note J.marks l } ∧ Chg (fun k => k = t.M) w w' := by
  have HJ := Lib.hid hj
  have HR := Lib.hid hr
  have HNL := Lib.hid hn
  clear hj hr hn
  go_enter Tryz.func65, Tryz.ntmps65
  go_wp2
  go_loopg [10] n (fun gk vi wr => ∃ k : Nat, gk = n - k ∧ k ≤ n ∧ vi = .int .i64 k ∧ Hid (JnAt wr h t { J with marks := note J.marks (l.take k) } ∧ Chg (fun k => k = t.M) w wr))
  case atStart => exact ⟨0, rfl, Nat.zero_le _, rfl, HJ.out, Chg.refl _ _⟩
  case round =>
    obtain ⟨k, rfl, hk, rfl, H⟩ := hrel
    by_cases hlt : k < n
    · obtain ⟨m, hm⟩ : ∃ m, l[k]? = some m := ⟨_, List.getElem?_eq_getElem (by rw [HNL.out]; exact hlt)⟩
      obtain ⟨g, off, eA, hg, hx⟩ := (HR.out.chg H.out.2 (fun g cur fz hg e => HJ.out.map.ne_blk hg e.symm)).at_ (j := k * 2) (by omega)
      subst eA
      have c0 := hx (k * 2) _ (mks_get l k m hm).1
      have c1 := hx (k * 2 + 1) _ (mks_get l k m hm).2
      rw [← Nat.add_assoc] at c1
      have hkk : (k : Int) < (n : Int) := by omega
      have HSU := Lib.hid (note_take J.marks hm)
      obtain ⟨ms, hms⟩ : ∃ ms, ms = note J.marks (l.take k) := ⟨_, rfl⟩
      rw [← hms] at H HSU
      obtain ⟨kx, vx⟩ := m
      have HLT := Lib.hid hlt
      clear hx hm hms hlt
      go_wp2_with fail
      refine wp_forget (fun W => Chg No wr W ∧ Blk W wr.heap.size tMark #[.int .u64 kx, .int .u64 vx]) ⟨by (repeat (first | (with_reducible exact Chg.refl _ _) | (with_reducible assumption) | (with_reducible refine Chg.drewN ?_ _) | (with_reducible refine Chg.drew ?_) | (with_reducible refine Chg.alloc ?_ _) | (with_reducible refine Chg.setCell ?_ (by first | (left; simp [DevH.foot]; done) | (right; simp; done) | (right; simp; omega)) _))), Blk.new _ _ _⟩ (fun W hW => ?_)
      obtain ⟨hcW, hbW⟩ := hW
      obtain ⟨ga, hga⟩ : ∃ ga, wr.heap.size = ga := ⟨_, rfl⟩
      rw [hga] at hbW ⊢
      have hlW := H.out.1.chgNo hcW
      have d6 := hlW.box.cell 6
      simp at d6
      have a0 := hbW.cell 0
      have a1 := hbW.cell 1
      simp at a0 a1
      have hlk : ∀ q, (Instr.lookup tJm (.map (some t.M)) (.int .u64 kx) true).run Tryz.prog (W.drewN q) = .ok (.tuple #[.int .u64 ((aget ms (kx : Int)).getD 0 : Nat), .bool (aget ms (kx : Int)).isSome]) (W.drewN q) := fun q => look_jn (hlW.map.drewN q) _
      have hlk0 : (Instr.lookup tJm (.map (some t.M)) (.int .u64 kx) true).run Tryz.prog W = .ok (.tuple #[.int .u64 ((aget ms (kx : Int)).getD 0 : Nat), .bool (aget ms (kx : Int)).isSome]) W := look_jn hlW.map _
      have HLW := Lib.hid hlW
      have HCW := Lib.hid hcW
      have HBW := Lib.hid hbW
      have HN1 := Lib.hid (note_step ms (kx, vx))
      have HCR := Lib.hid H.out.2
      obtain ⟨o, ho⟩ : ∃ o, o = aget ms (kx : Int) := ⟨_, rfl⟩
      have HNO : Hid (note1 ms (kx, vx) = noteOf ms kx vx o) := by show _ = _; rw [ho]; exact HN1.out
      rw [← ho] at hlk hlk0
      clear hlW hcW hbW hga H ho HN1 c0 c1
      cases o with
      | none =>
        have HNO2 : Hid (note1 ms (kx, vx) = aset ms (kx : Int) vx) := by show _ = _; rw [HNO.out]; unfold noteOf; first | rfl | (simp only; rw [if_pos hkeep])
        go_quiet (fail)
        go_wp2_with fail
        refine wp_forget (fun W2 => Chg No W W2) ((Chg.refl No W).drewN _) (fun W2 hW2 => ?_)
        have hl2 := HLW.out.chgNo (hW2.drew)
        have hb2 := HBW.out.chg (hW2.drew) (fun h => h)
        have d6' := hl2.box.cell 6
        simp at d6'
        have a0' := hb2.cell 0
        have a1' := hb2.cell 1
        simp at a0' a1'
        obtain ⟨o, hrun, hmap⟩ := hl2.map.update (P := Tryz.prog) (keyLaw_int (Tryz.underlying28)) Tryz.underlying115 (kx : Int) (.int .u64 vx)
        rw [aset_jes] at hmap
        have hcM : Chg (fun k => k = t.M) W2.drew (setBlock W2.drew t.M o) := chg_setBlock _ _ _
        have HND := Lib.hid (And.intro (hl2.mapped hcM hmap) ((HCR.out.trans (HCW.out.mono (fun _ _ h => h.elim))).trans (((hW2.drew).mono (fun _ _ h => h.elim)).trans hcM)))
        clear hl2 hb2 hmap hcM hW2 hlk hlk0 a0 a1 d6
        go_region
        all_goals
          go_wp2
          go_roundg (n - (k + 1))
          case measure => omega
          case rel =>
            refine ⟨k + 1, rfl, by have := HLT.out; omega, by go_num, ?_⟩
            rw [HSU.out, HNO2.out]
            exact HND.out
      | some v =>
        by_cases hv : v < vx
        · have hvi : (v : Int) < (vx : Int) := by omega
          have hkeep := hv
          have HNO2 : Hid (note1 ms (kx, vx) = aset ms (kx : Int) vx) := by show _ = _; rw [HNO.out]; unfold noteOf; first | rfl | (simp only; rw [if_pos hkeep])
          go_quiet (fail)
          go_wp2_with fail
          refine wp_forget (fun W2 => Chg No W W2) ((Chg.refl No W).drewN _) (fun W2 hW2 => ?_)
          have hl2 := HLW.out.chgNo (hW2.drew)
          have hb2 := HBW.out.chg (hW2.drew) (fun h => h)
          have d6' := hl2.box.cell 6
          simp at d6'
          have a0' := hb2.cell 0
          have a1' := hb2.cell 1
          simp at a0' a1'
          obtain ⟨o, hrun, hmap⟩ := hl2.map.update (P := Tryz.prog) (keyLaw_int (Tryz.underlying28)) Tryz.underlying115 (kx : Int) (.int .u64 vx)
          rw [aset_jes] at hmap
          have hcM : Chg (fun k => k = t.M) W2.drew (setBlock W2.drew t.M o) := chg_setBlock _ _ _
          have HND := Lib.hid (And.intro (hl2.mapped hcM hmap) ((HCR.out.trans (HCW.out.mono (fun _ _ h => h.elim))).trans (((hW2.drew).mono (fun _ _ h => h.elim)).trans hcM)))
          clear hl2 hb2 hmap hcM hW2 hlk hlk0 a0 a1 d6
          go_region
          all_goals
            go_wp2
            go_roundg (n - (k + 1))
            case measure => omega
            case rel =>
              refine ⟨k + 1, rfl, by have := HLT.out; omega, by go_num, ?_⟩
              rw [HSU.out, HNO2.out]
              exact HND.out
        · have hvi : ¬ (v : Int) < (vx : Int) := by omega
          have HNO2 : Hid (note1 ms (kx, vx) = ms) := by show _ = _; rw [HNO.out]; unfold noteOf; simp only; rw [if_neg hv]
          go_quiet (fail)
          go_wp2
          go_roundg (n - (k + 1))
          case measure => omega
          case rel =>
            refine ⟨k + 1, rfl, by have := HLT.out; omega, by go_num, ?_⟩
            rw [HSU.out, HNO2.out]
            exact ⟨HLW.out.chgNo ((Chg.refl No _).drewN _), HCR.out.trans ((HCW.out.drewN _).mono (fun _ _ h => h.elim))⟩
    · obtain rfl : k = n := by omega
      go_wp2
      go_end0
      refine ⟨rfl, ?_, H.out.2⟩
      have e : l.take k = l := List.take_of_length_le (by rw [HNL.out]; exact Nat.le_refl _)
      rw [← e]
      exact H.out.1
end
end Go.Proofs.YtplpbbdakihnfaaGreat
end

section
namespace Go.Proofs.YtplpbbdakihnfaaGreat
open Go.RowKit
open Go.ChangeMaps (setBlock)
attribute [local go_sem ↓] Go.wp_at_zero Go.wp_at_succ
namespace Jn
def at_ (J : Jn) : Int := ((J.first + J.used : Nat) : Int)
def wD (J : Jn) (D : Dev) (l : List Mk) : Dev := D.write J.at_ (jnPage J.gen l)
def addJ (J : Jn) (D : Dev) (l : List Mk) : Jn := if J.losses ≠ D.losses ∨ J.room = 0 ∨ D.changeE ≠ 0 then J else if (J.wD D l).changeE ≠ 0 then { J with used := J.used + 1 } else { J with used := J.used + 1, marks := note J.marks l }
def addD (J : Jn) (D : Dev) (l : List Mk) : Dev := if J.losses ≠ D.losses ∨ J.room = 0 then D else if D.changeE ≠ 0 then J.wD D l else (J.wD D l).flush
def addE (J : Jn) (D : Dev) (l : List Mk) : Int := if J.losses ≠ D.losses then 4 else if J.room = 0 then 7 else if D.changeE ≠ 0 then D.changeE else (J.wD D l).changeE
end Jn
def jnHead (gen n : Nat) : List UInt8 := [84, 79, 77, 66] ++ (le 4 n ++ le 8 gen)
theorem jnPage_eq (gen : Nat) (l : List Mk) : jnPage gen l = jnHead gen l.length ++ mksBytes l := by simp [jnPage, jnHead]
theorem changeE_in2 (D : Dev) : D.changeE = 0 ∨ D.changeE = 4 := by unfold Dev.changeE; split <;> simp
section
variable {w w' : World} {h : DevH} {D : Dev} {t : JnH} {J : Jn}
theorem JnAt.lt (hj : JnAt w h t J) {k : Nat} (hk : t.own k) : k < w.heap.size := by
  rcases hk with rfl | rfl
  · exact hj.box.lt
  · exact hj.map.lt
theorem JnAt.bump (hj : JnAt w h t J) (hlt : J.used < J.pages) : JnAt (w.setCell ⟨t.J, 5, none⟩ (.int .i64 ((J.used : Int) + 1))) h t { J with used := J.used + 1 } ∧ Chg (fun k => k = t.J) w (w.setCell ⟨t.J, 5, none⟩ (.int .i64 ((J.used : Int) + 1))) := by
  have hc : Chg (fun k => k = t.J) w (w.setCell ⟨t.J, 5, none⟩ (.int .i64 ((J.used : Int) + 1))) := chg_setCell w ⟨t.J, 5, none⟩ _
  refine ⟨⟨?_, hj.map.chg hc (hj.map.ne_blk hj.box), hj.fit, hlt, hj.gen, hj.far⟩, hc⟩
  have := hj.box.set_ 5 (.int .i64 ((J.used : Int) + 1))
  simpa using this
theorem Rd.ofTy {S : Nat → Prop} {te T : TypeId} {A : Option Addr} {n : Nat} {xs : List Value} {g : Nat} {cs : Array Value} (hr : Rd w te A n xs) (hb : Blk w g T cs) (hne : te ≠ T) (hc : Chg S w w') (hS : ∀ k, S k → k = g) : Rd w' te A n xs :=
  hr.chg hc (fun g' cur fz hg hs => by
    have e := hS _ hs
    subst e
    unfold Blk at hb
    rw [hg] at hb
    injection hb with hb
    injection hb with _ e2
    exact hne e2)
theorem dev_one {N : Nat} {g : Nat} {T : TypeId} {cs : Array Value} (hd : DevN N w h D) (hb : Blk w g T cs) (hc : Chg (fun k => k = g) w w') (h1 : T ≠ tDev) (h2 : T ≠ tPP) (h3 : T ≠ tPage) (h4 : T ≠ tU8) : DevN N w' h D :=
  dev_ty hd hc (fun k hk e => by subst e; exact ⟨_, T, (0, 0), hb, h1, h2, h3, h4⟩)
set_option maxRecDepth 100000 in
set_option maxHeartbeats 4000000 in
theorem jadd_calls (hd : DevAt w h D) (hj : JnAt w h t J) (hfit : J.first + J.pages ≤ D.n) (A : Option Addr) (n c : Nat) (l : List Mk) (te : TypeId) (hn : l.length = n) (hr : Rd w te A (n * 2) (mks l)) (h1 : 1 ≤ n) (h23 : n ≤ 23) (hl : ∀ m ∈ l, m.1 < 18446744073709551616 ∧ m.2 < 18446744073709551616) (hte : te = tMark) :
    Calls Tryz.prog 54 #[.pointer (some ⟨t.J, 0, none⟩), .slice A n c] w fun e w' => e = .returned (.int .i64 (J.addE D l)) ∧ JnAt w' h t (J.addJ D l) ∧ DevAt w' h (J.addD D l) ∧ Chg (fun k => h.foot k ∨ t.own k) w w' := by
  subst hte
  have HLO := fun W => Lib.hid (fun hc : Chg No w W => losses_calls (hd.chgNo hc))
  have HRM := fun W => Lib.hid (fun hc : Chg No w W => room_calls (hj.chgNo hc))
  have c0 := hj.box.cell 0
  have c1 := hj.box.cell 1
  have c2 := hj.box.cell 2
  have c4 := hj.box.cell 4
  have c5 := hj.box.cell 5
  simp at c0 c1 c2 c4 c5
  have n0 : ((n : Int) == 0) = false := by simp; omega
  have n23 : ¬ (23 : Int) < (n : Int) := by omega
  have hul := hj.used
  have hft := hj.fit
  have hgn := hj.gen
  have HD := Lib.hid hd
  have HJ := Lib.hid hj
  have HR := Lib.hid hr
  have HNL := Lib.hid hn
  have HLM := Lib.hid hl
  have HFIT := Lib.hid hfit
  clear hd hj hr hn hl hfit
  by_cases hlo : J.losses = D.losses
  rotate_left
  · have hne : (J.losses != D.losses) = true := by simpa using hlo
    have hE : J.addE D l = 4 := by unfold Jn.addE; rw [if_pos hlo]
    have hJ : J.addJ D l = J := by unfold Jn.addJ; rw [if_pos (.inl hlo)]
    have hD : J.addD D l = D := by unfold Jn.addD; rw [if_pos (.inl hlo)]
    rw [hE, hJ, hD]
    clear hE hJ hD
    go_enter Tryz.func54, Tryz.ntmps54
    go_wp2_with fail
    go_quiet ((first | (go_at_call 35; exact quiet_left ((HLO _).out (by (repeat (first | (with_reducible exact Chg.refl _ _) | (with_reducible assumption) | (with_reducible refine Chg.drewN ?_ _) | (with_reducible refine Chg.drew ?_) | (with_reducible refine Chg.alloc ?_ _) | (with_reducible refine Chg.setCell ?_ (by first | (left; simp [DevH.foot]; done) | (right; simp; done) | (right; simp; omega)) _))))))))
    go_wp2
    go_ret
    have hc9 : Chg No w (w.drewN nq) := by (repeat (first | (with_reducible exact Chg.refl _ _) | (with_reducible assumption) | (with_reducible refine Chg.drewN ?_ _) | (with_reducible refine Chg.drew ?_) | (with_reducible refine Chg.alloc ?_ _) | (with_reducible refine Chg.setCell ?_ (by first | (left; simp [DevH.foot]; done) | (right; simp; done) | (right; simp; omega)) _)))
    exact ⟨rfl, HJ.out.chgNo hc9, (show DevN w.heap.size w h D from HD.out).chgNo hc9 |>.at_, hc9.mono (fun _ _ h => h.elim)⟩
  have hne : (J.losses != D.losses) = false := by simp [hlo]
  by_cases hrm : J.room = 0
  · have hE : J.addE D l = 7 := by unfold Jn.addE; rw [if_neg (fun h => h hlo), if_pos hrm]
    have hJ : J.addJ D l = J := by unfold Jn.addJ; rw [if_pos (.inr (.inl hrm))]
    have hD : J.addD D l = D := by unfold Jn.addD; rw [if_pos (.inr hrm)]
    rw [hE, hJ, hD]
    have HLO2 := Lib.hid hlo
    rw [hrm] at HRM
    clear hE hJ hD hlo
    go_enter Tryz.func54, Tryz.ntmps54
    go_wp2_with fail
    go_quiet ((first | (go_at_call 35; exact quiet_left ((HLO _).out (by (repeat (first | (with_reducible exact Chg.refl _ _) | (with_reducible assumption) | (with_reducible refine Chg.drewN ?_ _) | (with_reducible refine Chg.drew ?_) | (with_reducible refine Chg.alloc ?_ _) | (with_reducible refine Chg.setCell ?_ (by first | (left; simp [DevH.foot]; done) | (right; simp; done) | (right; simp; omega)) _))))))))
    go_wp2_with fail
    refine ((HRM _).out (by (repeat (first | (with_reducible exact Chg.refl _ _) | (with_reducible assumption) | (with_reducible refine Chg.drewN ?_ _) | (with_reducible refine Chg.drew ?_) | (with_reducible refine Chg.alloc ?_ _) | (with_reducible refine Chg.setCell ?_ (by first | (left; simp [DevH.foot]; done) | (right; simp; done) | (right; simp; omega)) _))))).mono ?_
    rintro e w1 ⟨rfl, hc1⟩
    have hc9 : Chg No w w1 := (by (repeat (first | (with_reducible exact Chg.refl _ _) | (with_reducible assumption) | (with_reducible refine Chg.drewN ?_ _) | (with_reducible refine Chg.drew ?_) | (with_reducible refine Chg.alloc ?_ _) | (with_reducible refine Chg.setCell ?_ (by first | (left; simp [DevH.foot]; done) | (right; simp; done) | (right; simp; omega)) _))) : Chg No w _).trans hc1
    go_wp2
    go_ret
    exact ⟨rfl, HJ.out.chgNo hc9, (show DevN w.heap.size w h D from HD.out).chgNo hc9 |>.at_, hc9.mono (fun _ _ h => h.elim)⟩
  have hrm0 : ((J.room : Int) == 0) = false := by simp; omega
  have HLO2 := Lib.hid hlo
  have HRM2 := Lib.hid hrm
  have hroom : J.used < J.pages := by unfold Jn.room at hrm; omega
  clear hlo hrm
  go_enter Tryz.func54, Tryz.ntmps54
  go_wp2_with fail
  go_quiet ((first | (go_at_call 35; exact quiet_left ((HLO _).out (by (repeat (first | (with_reducible exact Chg.refl _ _) | (with_reducible assumption) | (with_reducible refine Chg.drewN ?_ _) | (with_reducible refine Chg.drew ?_) | (with_reducible refine Chg.alloc ?_ _) | (with_reducible refine Chg.setCell ?_ (by first | (left; simp [DevH.foot]; done) | (right; simp; done) | (right; simp; omega)) _))))))))
  go_wp2_with fail
  refine ((HRM _).out (by (repeat (first | (with_reducible exact Chg.refl _ _) | (with_reducible assumption) | (with_reducible refine Chg.drewN ?_ _) | (with_reducible refine Chg.drew ?_) | (with_reducible refine Chg.alloc ?_ _) | (with_reducible refine Chg.setCell ?_ (by first | (left; simp [DevH.foot]; done) | (right; simp; done) | (right; simp; omega)) _))))).mono ?_
  rintro e w1 ⟨rfl, hc1⟩
  have HC1 : Hid (Chg No w w1) := (by (repeat (first | (with_reducible exact Chg.refl _ _) | (with_reducible assumption) | (with_reducible refine Chg.drewN ?_ _) | (with_reducible refine Chg.drew ?_) | (with_reducible refine Chg.alloc ?_ _) | (with_reducible refine Chg.setCell ?_ (by first | (left; simp [DevH.foot]; done) | (right; simp; done) | (right; simp; omega)) _))) : Chg No w _).trans hc1
  clear hc1 HLO HRM
  go_wp2_with fail
  refine (tmagic_calls _).mono ?_
  rintro e w2 ⟨rfl, hw2⟩
  have ho2 : w2.ownsRow w1.heap.size tU8 1 (.slice (some ⟨w1.heap.size, 0, none⟩) 4 4) 4 (bys [84, 79, 77, 66]) := by
    rw [hw2]; exact own_cells w1 tU8 #[.int .u8 84, .int .u8 79, .int .u8 77, .int .u8 66] 4 rfl (by simp only [maxLen]; omega)
  have hc2 : Chg No w1 w2 := by rw [hw2]; (repeat (first | (with_reducible exact Chg.refl _ _) | (with_reducible assumption) | (with_reducible refine Chg.drewN ?_ _) | (with_reducible refine Chg.drew ?_) | (with_reducible refine Chg.alloc ?_ _) | (with_reducible refine Chg.setCell ?_ (by first | (left; simp [DevH.foot]; done) | (right; simp; done) | (right; simp; omega)) _)))
  have HA4 := Lib.hid (tadd_callsI (.slice (some ⟨w1.heap.size, 0, none⟩) 4 4) w1.heap.size 4 (bys [84, 79, 77, 66]) (n : Int) 4 w2 ho2 hc2.size (by omega) (by omega) (by omega) (by omega) (by omega))
  have HC2 := Lib.hid hc2
  have hew : IntKind.u64.wrap (n : Int) = n := wraps_u64 _ (by omega) (by omega)
  clear hw2 ho2 hc2
  go_wp2_with fail
  refine HA4.out.mono ?_
  rintro e w3 ⟨v3, rfl, ho3, hc3⟩
  have HC3 : Hid (Chg (fun i => w1.heap.size ≤ i) w1 w3) := (HC2.out.mono (fun _ _ h => h.elim)).trans hc3
  have HJ3 : Hid (JnAt w3 h t J) := (HJ.out.chgNo HC1.out).chg HC3.out (fun k hk hS => by have := HJ.out.lt hk; have := HC1.out.size; omega)
  have d4 := HJ3.out.box.cell 4
  simp at d4
  have HA8 := Lib.hid (tadd_callsI v3 w1.heap.size _ _ (J.gen : Int) 8 w3 ho3 HC3.out.size (by omega) (by omega) (by omega) (by omega) (by omega))
  clear hc3 ho3 HA4 c0 c1 c2 c4 c5
  go_wp2_with fail
  refine HA8.out.mono ?_
  rintro e w4 ⟨v4, rfl, ho4, hc4⟩
  have HO4 : Hid (w4.ownsRow w1.heap.size tU8 1 v4 16 (bys (jnHead J.gen n))) := by
    show World.ownsRow _ _ _ _ _ _ _
    have e : bys (jnHead J.gen n) = bys [84, 79, 77, 66] ++ bys (le 4 n) ++ bys (le 8 J.gen) := by unfold jnHead; rw [bys_append, bys_append, List.append_assoc]
    rw [e]
    exact ho4
  have HC4 : Hid (Chg (fun i => w1.heap.size ≤ i) w1 w4) := HC3.out.trans hc4
  clear ho4 hc4 HA8 d4
  go_wp2
  go_loopg [5, 46] n (fun gk vv vi wr => ∃ (k : Nat) (v5 : Value), v5 = vv ∧ gk = n - k ∧ k ≤ n ∧ vi = .int .i64 k ∧ Hid (wr.ownsRow w1.heap.size tU8 1 v5 (16 + 16 * k) (bys (jnHead J.gen n ++ mksBytes (l.take k))) ∧ Chg (fun i => w1.heap.size ≤ i) w1 wr))
  case atStart => exact ⟨0, _, rfl, rfl, Nat.zero_le _, rfl, by simpa [mksBytes] using HO4.out, HC4.out⟩
  case round =>
    obtain ⟨k, v5, rfl, rfl, hk, rfl, H⟩ := hrel
    by_cases hlt : k < n
    · obtain ⟨m, hm⟩ : ∃ m, l[k]? = some m := ⟨_, List.getElem?_eq_getElem (by rw [HNL.out]; exact hlt)⟩
      obtain ⟨g, off, eA, hg, hx⟩ := ((HR.out.chg HC1.out (fun _ _ _ _ h => h)).chg H.out.2 (fun g cur fz hg hS => by have h1 := (Array.getElem?_eq_some_iff.1 hg).1; have hS' : w1.heap.size ≤ g := hS; omega)).at_ (j := k * 2) (by omega)
      subst eA
      have c0 := hx (k * 2) _ (mks_get l k m hm).1
      have c1 := hx (k * 2 + 1) _ (mks_get l k m hm).2
      rw [← Nat.add_assoc] at c1
      have hkk : (k : Int) < (n : Int) := by omega
      have hml := HLM.out m (List.mem_of_getElem? hm)
      have HMB : Hid (bys (jnHead J.gen n ++ mksBytes (l.take (k + 1))) = (bys (jnHead J.gen n ++ mksBytes (l.take k)) ++ bys (le 8 m.1)) ++ bys (le 8 m.2)) := by
        show _ = _
        rw [List.take_add_one, hm, Option.toList]
        simp [mksBytes, mkBytes, bys_append]
      obtain ⟨kx, vx⟩ := m
      simp only at hml HMB
      have hkx : (kx : Int) < 18446744073709551616 := by omega
      have hvx : (vx : Int) < 18446744073709551616 := by omega
      have HLT := Lib.hid hlt
      clear hx hm hlt hml
      go_wp2_with fail
      refine wp_forget (fun W => Chg No wr W ∧ Blk W wr.heap.size tMark #[.int .u64 kx, .int .u64 vx]) ⟨by (repeat (first | (with_reducible exact Chg.refl _ _) | (with_reducible assumption) | (with_reducible refine Chg.drewN ?_ _) | (with_reducible refine Chg.drew ?_) | (with_reducible refine Chg.alloc ?_ _) | (with_reducible refine Chg.setCell ?_ (by first | (left; simp [DevH.foot]; done) | (right; simp; done) | (right; simp; omega)) _))), Blk.new _ _ _⟩ (fun W hW => ?_)
      obtain ⟨hcW, hbW⟩ := hW
      have hga1 : w1.heap.size ≤ wr.heap.size := H.out.2.size
      obtain ⟨ga, hga⟩ : ∃ ga, wr.heap.size = ga := ⟨_, rfl⟩
      have HOW : Hid (W.drew.ownsRow w1.heap.size tU8 1 v5 (16 + 16 * k) (bys (jnHead J.gen n ++ mksBytes (l.take k)))) := own_chg H.out.1 hcW.drew (fun _ _ h => h)
      have HOB : Hid (∀ j, v5.ownBlock = some j → j < wr.heap.size) := fun j hj => (H.out.1.lt j hj).2
      have HCWW : Hid (Chg (fun i => w1.heap.size ≤ i) w1 W.drew) := H.out.2.trans ((hcW.drew).mono (fun _ _ h => h.elim))
      have hszw : w1.heap.size ≤ W.drew.heap.size := HCWW.out.size
      have HBD : Hid (Blk W.drew ga tMark #[.int .u64 kx, .int .u64 vx]) := by show Blk _ _ _ _; rw [← hga]; exact hbW.drew
      rw [hga] at hbW HOB ⊢
      have a0 := hbW.cell 0
      have a1 := hbW.cell 1
      simp at a0 a1
      obtain ⟨base, hbase⟩ : ∃ base, base = w1.heap.size := ⟨_, rfl⟩
      rw [← hbase] at HOW hszw HCWW
      have HBASE := Lib.hid hbase
      obtain ⟨xs, hxs⟩ : ∃ xs, xs = bys (jnHead J.gen n ++ mksBytes (l.take k)) := ⟨_, rfl⟩
      rw [← hxs] at HOW HMB
      clear hcW H c0 c1 hbase hxs hga hga1
      go_region_held3 (fun w' => w'.cell? ⟨ga, 0, none⟩ = some (.int .u64 kx) ∧ w'.cell? ⟨ga, 1, none⟩ = some (.int .u64 vx)) (first | go_keep)
        (first
          | (go_at_call_of 82 v5
             refine (tadd_calls v5 base (16 + 16 * k) xs kx 8 W.drew HOW.out hszw (by omega) (by omega) (by omega)).mono ?_
             rintro e w6 ⟨v6, rfl, ho6, hc6, hb6⟩
             have HOB6 : Hid (∀ j, v6.ownBlock = some j → j ≠ ga) := fun j hj => by
               have hlt := HBD.out.lt
               rcases hb6 with h | h
               · have := HOB.out j (by rw [← h]; exact hj); omega
               · have := h j hj; omega
             have HO6 := Lib.hid ho6
             have HC6 : Hid (Chg (fun i => base ≤ i) W.drew w6) := hc6.mono (fun i _ hi => own_new HOW.out i hi)
             have X6 := Lib.hid (HBD.out.chg hc6 (fun hS => by have := HOB.out ga hS; omega))
             clear ho6 hc6 hb6
             have x60 := X6.out.cell 0
             have x61 := X6.out.cell 1
             simp at x60 x61
             have hsz6 : base ≤ w6.heap.size := by have := HC6.out.size; omega)
          | (go_at_call_of 82 v6
             refine (tadd_calls v6 base (16 + 16 * k + 8) (xs ++ bys (le 8 kx)) vx 8 w6 HO6.out hsz6 (by omega) (by omega) (by omega)).mono ?_
             rintro e w7 ⟨v7, rfl, ho7, hc7, _⟩
             have HO7 := Lib.hid ho7
             have HC7 : Hid (Chg (fun i => base ≤ i) w6 w7) := hc7.mono (fun i _ hi => own_new HO6.out i hi)
             have X7 := Lib.hid (X6.out.chg hc7 (fun hS => (HOB6.out ga hS) rfl))
             have x70 := X7.out.cell 0
             have x71 := X7.out.cell 1
             simp at x70 x71
             clear ho7 hc7))
      all_goals
        go_wp2
        go_roundg (n - (k + 1))
        case measure => have := HLT.out; omega
        case rel =>
          refine ⟨k + 1, _, rfl, rfl, by have := HLT.out; omega, by go_num, ?_, ?_⟩
          · rw [HMB.out, ← HBASE.out]
            have := HO7.out
            rwa [show 16 + 16 * k + 8 + 8 = 16 + 16 * (k + 1) by omega] at this
          · rw [← HBASE.out]
            exact HCWW.out.trans (HC6.out.trans HC7.out)
    · obtain rfl : k = n := by omega
      have el : l.take k = l := List.take_of_length_le (by rw [HNL.out]; exact Nat.le_refl _)
      have hpg : wr.ownsRow w1.heap.size tU8 1 v5 (16 + 16 * k) (bys (jnPage J.gen l)) := by
        have := H.out.1
        rw [el] at this
        rw [jnPage_eq, HNL.out]
        exact this
      obtain ⟨A5, c5, rfl, hc5, hr5⟩ := own_slice hpg
      rw [Nat.mul_one] at hr5
      have HCW : Hid (Chg No w wr) := HC1.out.then H.out.2 (fun i hi hS => by have := HC1.out.size; have hS' : w1.heap.size ≤ i := hS; omega)
      have HJ5 := Lib.hid (HJ.out.chgNo HCW.out.drew)
      have HD5 : Hid (DevAt wr.drew h D) := ((show DevN w.heap.size w h D from HD.out).chgNo HCW.out.drew).at_
      have HR5 : Hid (Rd wr.drew tU8 A5 (16 + 16 * k) (bys (jnPage J.gen l))) := hr5.drew
      have HM5 := Lib.hid (HR.out.chg HCW.out.drew (fun _ _ _ _ h => h))
      have HC5 : Hid (Chg No w wr.drew) := HCW.out.drew
      have hjr := HJ.out.chgNo HCW.out
      have d0 := hjr.box.cell 0
      have d2 := hjr.box.cell 2
      have d5 := hjr.box.cell 5
      simp at d0 d2 d5
      have hea : IntKind.i64.wrap ((J.first : Int) + (J.used : Int)) = (J.first : Int) + (J.used : Int) := IntWalk.i64_in _ (by omega)
      clear H hpg hr5 el hjr HO4
      go_wp2_with fail
      go_still_tail 14, (by kernel_rfl)
      change wpList _ _ _ _ _ wr.drew
      generalize wr.drew = wy at HJ5 HD5 HR5 HM5 HC5 ⊢
      have HWR := Lib.hid (write_calls (show DevN wy.heap.size wy h D from HD5.out) ((J.first : Int) + (J.used : Int)) A5 (16 + 16 * k) c5 (jnPage J.gen l) HR5.out (by omega))
      have hwe : D.writeE ((J.first : Int) + (J.used : Int)) (jnPage J.gen l).length = D.changeE := by
        have hfit := HFIT.out
        have hnl := HNL.out
        unfold Dev.writeE
        rw [show D.has ((J.first : Int) + (J.used : Int)) = true from by simp [Dev.has]; omega, decide_eq_true (by rw [jnPage_len]; omega)]
        rfl
      have hat : ((J.first : Int) + (J.used : Int)) = J.at_ := by unfold Jn.at_; omega
      rw [hwe] at HWR
      have HWD : Hid (D.write ((J.first : Int) + (J.used : Int)) (jnPage J.gen l) = J.wD D l) := by show _ = _; rw [hat]; rfl
      rw [HWD.out] at HWR
      obtain ⟨D1, hD1⟩ : ∃ D1, D1 = J.wD D l := ⟨_, rfl⟩
      rw [← hD1] at HWR
      have HD1E := Lib.hid hD1
      have hce := changeE_in2 D
      obtain ⟨ce, hcee⟩ : ∃ ce, ce = D.changeE := ⟨_, rfl⟩
      have HCE := Lib.hid hcee
      rw [← hcee] at HWR hce
      clear hcee hwe hat hD1 d0 d2 d5
      go_wp2_with fail
      refine HWR.out.mono ?_
      rintro e w6 ⟨rfl, hd6, hc6⟩
      have HJ6 := Lib.hid (HJ5.out.foot (show DevN wy.heap.size wy h D from HD5.out) hc6)
      have HM6 := Lib.hid (HM5.out.chg hc6 (fun g cur fz hg => (show DevN wy.heap.size wy h D from HD5.out).not_foot hg (by decide) (by decide)))
      have HC6 : Hid (Chg (fun k => h.foot k ∨ t.own k) w w6) := (HC5.out.mono (fun _ _ h => h.elim)).trans (hc6.mono (fun _ _ h => .inl h))
      have HD6 := Lib.hid hd6
      clear hd6 hc6 HWR
      rcases hce with rfl | rfl
      rotate_left
      · have hE : J.addE D l = 4 := by unfold Jn.addE; rw [if_neg (fun h => h HLO2.out), if_neg HRM2.out, ← HCE.out, if_pos (by decide)]
        have hJ : J.addJ D l = J := by unfold Jn.addJ; rw [if_pos (.inr (.inr (by rw [← HCE.out]; decide)))]
        have hD : J.addD D l = D1 := by unfold Jn.addD; rw [if_neg (fun h => h.elim (fun h => h HLO2.out) HRM2.out), if_pos (by rw [← HCE.out]; decide)]; exact HD1E.out.symm
        have HE := Lib.hid hE
        have HJJ := Lib.hid hJ
        have HDD := Lib.hid hD
        clear hE hJ hD
        go_wp2
        go_ret
        exact ⟨by rw [HE.out]; rfl, by rw [HJJ.out]; exact HJ6.out, by rw [HDD.out]; exact HD6.out, HC6.out⟩
      have d5 := HJ6.out.box.cell 5
      have f5 := HJ6.out.box.frozen 5
      have d0 := HJ6.out.box.cell 0
      simp at d5 d0
      have hu1 : IntKind.i64.wrap ((J.used : Int) + 1) = (J.used : Int) + 1 := IntWalk.i64_in _ (by omega)
      have hb := HJ6.out.bump hroom
      obtain ⟨w7, hw7⟩ : ∃ w7, w7 = w6.setCell ⟨t.J, 5, none⟩ (.int .i64 ((J.used : Int) + 1)) := ⟨_, rfl⟩
      rw [← hw7] at hb
      have HJ7 := Lib.hid hb.1
      have HD7 : Hid (DevAt w7 h D1) := (dev_one (show DevN w6.heap.size w6 h D1 from HD6.out) HJ6.out.box hb.2 (by decide) (by decide) (by decide) (by decide)).at_
      have HM7 := Lib.hid (HM6.out.ofTy HJ6.out.box (by decide) hb.2 (fun _ h => h))
      have HC7 : Hid (Chg (fun k => h.foot k ∨ t.own k) w w7) := HC6.out.then hb.2 (fun i hi e => .inr (.inl e))
      have hd7 := HJ7.out.box.cell 0
      simp at hd7
      have HFL := Lib.hid (flush_calls (show DevN w7.heap.size w7 h D1 from HD7.out))
      have HW7 := Lib.hid hw7
      have hce1 := changeE_in2 D1
      obtain ⟨c1, hc1e⟩ : ∃ c1, c1 = D1.changeE := ⟨_, rfl⟩
      have HC1E := Lib.hid hc1e
      rw [← hc1e] at HFL hce1
      clear hc1e hb hw7
      go_wp2_with fail
      rw [← HW7.out]
      refine HFL.out.mono ?_
      rintro e w8 ⟨rfl, hd8, hc8⟩
      have HJ8 := Lib.hid (HJ7.out.foot (show DevN w7.heap.size w7 h D1 from HD7.out) hc8)
      have HM8 := Lib.hid (HM7.out.chg hc8 (fun g cur fz hg => (show DevN w7.heap.size w7 h D1 from HD7.out).not_foot hg (by decide) (by decide)))
      have HC8 : Hid (Chg (fun k => h.foot k ∨ t.own k) w w8) := HC7.out.trans (hc8.mono (fun _ _ h => .inl h))
      have HD8 := Lib.hid hd8
      have hD : J.addD D l = D1.flush := by unfold Jn.addD; rw [if_neg (fun h => h.elim (fun h => h HLO2.out) HRM2.out), if_neg (by rw [← HCE.out]; decide), HD1E.out]
      have HDD := Lib.hid hD
      clear hd8 hc8 HFL hD
      rcases hce1 with rfl | rfl
      rotate_left
      · have hE : J.addE D l = 4 := by unfold Jn.addE; rw [if_neg (fun h => h HLO2.out), if_neg HRM2.out, if_neg (by rw [← HCE.out]; decide), ← HD1E.out]; exact HC1E.out.symm
        have hJ : J.addJ D l = { J with used := J.used + 1 } := by unfold Jn.addJ; rw [if_neg (fun h => h.elim (fun h => h HLO2.out) (fun h => h.elim HRM2.out (fun h => h HCE.out.symm))), if_pos (by rw [← HD1E.out, ← HC1E.out]; decide)]
        have HE := Lib.hid hE
        have HJJ := Lib.hid hJ
        clear hE hJ
        go_wp2
        go_ret
        exact ⟨by rw [HE.out]; rfl, by rw [HJJ.out]; exact HJ8.out, by rw [HDD.out]; exact HD8.out, HC8.out⟩
      have hE : J.addE D l = 0 := by unfold Jn.addE; rw [if_neg (fun h => h HLO2.out), if_neg HRM2.out, if_neg (by rw [← HCE.out]; decide), ← HD1E.out]; exact HC1E.out.symm
      have hJ : J.addJ D l = { J with used := J.used + 1, marks := note J.marks l } := by unfold Jn.addJ; rw [if_neg (fun h => h.elim (fun h => h HLO2.out) (fun h => h.elim HRM2.out (fun h => h HCE.out.symm))), if_neg (by rw [← HD1E.out, ← HC1E.out]; decide)]
      have HE := Lib.hid hE
      have HJJ := Lib.hid hJ
      have HNT := Lib.hid (note_calls HJ8.out A k c l tMark HNL.out HM8.out (by omega))
      clear hE hJ
      go_wp2_with fail
      refine HNT.out.mono ?_
      rintro e w9 ⟨rfl, hj9, hc9⟩
      have HJ9 := Lib.hid hj9
      have HD9 : Hid (DevAt w9 h D1.flush) := ((show DevN w8.heap.size w8 h _ from HD8.out).chg hc9 (fun e => by obtain ⟨a, b, c, e', hb⟩ := HD8.out.box; exact HJ8.out.map.ne_blk hb e.symm) (fun e => by obtain ⟨ps, hb, _⟩ := HD8.out.row; exact HJ8.out.map.ne_blk hb e.symm) (fun e => HJ8.out.far e.symm) (fun g cs T _ hT hb e => by subst e; exact HJ8.out.map.ne_blk hb rfl)).at_
      have HC9 : Hid (Chg (fun k => h.foot k ∨ t.own k) w w9) := HC8.out.then hc9 (fun i hi e => .inr (.inr e))
      clear hj9 hc9 HNT
      go_wp2
      go_ret
      exact ⟨by rw [HE.out]; rfl, by rw [HJJ.out]; exact HJ9.out, by rw [HDD.out]; exact HD9.out, HC9.out⟩
end
end Go.Proofs.YtplpbbdakihnfaaGreat
end
