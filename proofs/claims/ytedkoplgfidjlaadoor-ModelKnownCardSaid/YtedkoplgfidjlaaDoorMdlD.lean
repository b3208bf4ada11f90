/- The tables that start-up code lays; words.Key, walked. -/
import Derived.Test.YtedkoplgfidjlaaDoorMdlA
import Derived.Test.YtedkoplgfidjlaaDoorShelf
import Derived.Lib.OthersKept
import Derived.Laws.RangeString
import Derived.Laws.RangeAny
import Derived.LoopTactic
import Derived.WalkSmall
namespace Go.Proofs.YtedkoplgfidjlaaDoor
open Go.RowKit
attribute [local go_sem ↓] Go.wp_at_zero Go.wp_at_succ
set_option linter.unusedSimpArgs false
set_option linter.unusedVariables false

/-- what the package-level variables hold -/
structure Glob (w : World) : Prop where
  u8 : Lib.Utf8Tabs 0 1 w
  syn : ∃ te pe, w.cell? ⟨2, 0, none⟩ = some (.iface te pe)
  rng : ∃ te pe, w.cell? ⟨3, 0, none⟩ = some (.iface te pe)
  pow : Lib.TabIs Tryd.prog w "internal/strconv.uint64pow10" .u64 Lib.pow10Tab
  pos : 7 ≤ w.heap.size
theorem pow_named : Tryd.prog.globalNamed "internal/strconv.uint64pow10" = some 4 := by kernel_rfl
theorem Glob.chg {S : Nat → Prop} {w w' : World} (h : Glob w) (hc : Chg S w w') (hS : ∀ k, k < 7 → ¬ S k) : Glob w' := by
  have hp := h.pos
  have hcell : ∀ g i, g < 7 → w'.cell? ⟨g, i, none⟩ = w.cell? ⟨g, i, none⟩ := fun g i hg => by
    unfold World.cell?
    rw [hc.block g (by omega) (hS g hg)]
  refine ⟨⟨fun c h1 => (hcell 0 c (by omega)).trans (h.u8.1 c h1), fun i h1 => ⟨(hcell 1 _ (by omega)).trans (h.u8.2 i h1).1, (hcell 1 _ (by omega)).trans (h.u8.2 i h1).2⟩⟩, ?_, ?_, ?_, Nat.le_trans hp hc.size⟩
  · obtain ⟨te, pe, h1⟩ := h.syn; exact ⟨te, pe, (hcell 2 0 (by omega)).trans h1⟩
  · obtain ⟨te, pe, h1⟩ := h.rng; exact ⟨te, pe, (hcell 3 0 (by omega)).trans h1⟩
  · have := h.pow
    unfold Lib.TabIs at this ⊢
    have hb : Below 7 w w' := ⟨hc.os, hc.tape, hc.output, hc.size, fun k hk => hc.block k (by omega) (hS k hk)⟩
    exact var?_below hb pow_named (by omega) this
theorem Glob.chgNo {w w' : World} (h : Glob w) (hc : Chg No w w') : Glob w' := h.chg hc (fun _ _ h => h)
theorem spelt_calls {w : World} (hg : Glob w) (s : ByteArray) (pos : Nat) (hp : pos ≤ s.size) (r : Int) :
    Calls Tryd.prog 46 #[.string s, .int .i64 pos, .int .i32 r] w fun e w' => (∃ b : Bool, (r ≠ 65533 → b = true) ∧ e = .returned (.bool b)) ∧ Chg No w w' := by
  have HD := fun s => Lib.hid (Tryd.utf8_DecodeRuneInString s w hg.u8)
  clear hg
  by_cases hr : r = 65533
  · subst hr
    go_enter Tryd.func46, Tryd.ntmps46
    have hpi : (pos : Int) ≤ (s.size : Int) := by omega
    go_wp2_with fail
    refine (HD _).out.mono ?_
    rintro e w1 ⟨rfl, hb1⟩
    have HC : Hid (Chg No w w1) := Chg.ofBelow hb1
    clear hb1 HD
    go_wp2_with fail
    go_ret
    exact ⟨⟨_, (fun h => absurd rfl h), rfl⟩, HC.out⟩
  · have hrb : (r != 65533) = true := by simp [hr]
    go_enter Tryd.func46, Tryd.ntmps46
    go_wp2_with fail
    go_ret
    exact ⟨⟨true, (fun _ => rfl), rfl⟩, Chg.refl _ _⟩
theorem width_pos (s : ByteArray) (pos : Nat) (h : pos < s.size) : 1 ≤ (Utf8.decode s pos).2 := by
  by_cases ha : (s[pos]'h).toNat < 128
  · rw [decode_ascii s pos h ha]
    exact Nat.le_refl _
  · exact (decode_high s pos h (by omega)).2
theorem Chg.iterAt {S : Nat → Prop} {w w' : World} (h : Chg S w w') {k : Nat} (hk : w.heap.size ≤ k) (s : ByteArray) (pos : Nat) : Chg S w (w'.iterAt k s pos) :=
  ⟨h.os, h.tape, h.output, by rw [Lib.iterAt_size]; exact h.size, fun i hi hs => by rw [Lib.iterAt_other _ _ _ _ _ (by omega)]; exact h.block i hi hs⟩
def KeyR (s : ByteArray) (e : Ending) : Prop := ∃ b : Bool, (b = true → 1 ≤ s.size ∧ s.size ≤ 250) ∧ (s = ⟨#[97]⟩ → b = true) ∧ e = .returned (.bool b)
set_option maxHeartbeats 4000000 in
set_option maxRecDepth 100000 in
theorem wkey_calls {w : World} (hg : Glob w) (s : ByteArray) :
    Calls Tryd.prog 37 #[.string s] w fun e w' => KeyR s e ∧ Chg No w w' := by
  have HS := fun W => fun r => fun pos => fun hp => Lib.hid (fun hc : Chg No w W => spelt_calls (hg.chgNo hc) s pos hp r)
  by_cases h0 : s.size < 1
  · have h0i : (s.size : Int) < 1 := by omega
    go_enter Tryd.func37, Tryd.ntmps37
    go_wp2_with fail
    go_ret
    exact ⟨⟨false, (fun h => by cases h), (fun h => by subst h; simp [ByteArray.size] at h0), rfl⟩, Chg.refl _ _⟩
  have h0i : ¬ (s.size : Int) < 1 := by omega
  by_cases h1 : 250 < s.size
  · have h1i : (250 : Int) < (s.size : Int) := by omega
    go_enter Tryd.func37, Tryd.ntmps37
    go_wp2_with fail
    go_ret
    exact ⟨⟨false, (fun h => by cases h), (fun h => by subst h; simp [ByteArray.size] at h1), rfl⟩, Chg.refl _ _⟩
  have h1i : ¬ (250 : Int) < (s.size : Int) := by omega
  have HSZ := Lib.hid (And.intro h0 h1)
  clear h0 h1
  go_enter Tryd.func37, Tryd.ntmps37
  go_wp2
  go_loopw [] (fun wr => ∃ pos : Nat, wr.heap[w.heap.size]? = some (.stringIter s pos) ∧ Hid (Chg No w wr)) (fun wr => s.size - wr.iterPos w.heap.size)
  case atStart => exact ⟨0, World.iter_heap w s 0, (Chg.refl No w).alloc _⟩
  case round =>
    obtain ⟨pos, hit, HC⟩ := hrel
    by_cases hp : pos < s.size
    · have hnx : ∀ ty, (Instr.next (.pointer (some ⟨w.heap.size, 0, none⟩)) true ty).run Tryd.prog wr = _ := fun ty => Lib.run_next_any_at wr w.heap.size s pos ty hit hp
      have hwd := width_pos s pos hp
      have hit2 := Lib.iterAt_heap wr w.heap.size s pos (pos + (Utf8.decode s pos).2) hit
      have hc2 := HC.out.iterAt (Nat.le_refl _) s (pos + (Utf8.decode s pos).2)
      have HS2 := Lib.hid ((HS _ ((Utf8.decode s pos).1 : Nat) pos (by omega)).out hc2)
      have HI2 := Lib.hid hit2
      have HC2 := Lib.hid hc2
      have HP := Lib.hid (And.intro hp hwd)
      have HIT := Lib.hid hit
      by_cases hsa : s = ⟨#[97]⟩
      · have hpos : pos = 0 := by subst hsa; simp [ByteArray.size] at hp; omega
        have hr : (Utf8.decode s pos).1 = 97 := by subst hsa; subst hpos; decide +kernel
        obtain ⟨r, hr2⟩ : ∃ r, r = (Utf8.decode s pos).1 := ⟨_, rfl⟩
        rw [← hr2] at hr hnx HS2
        subst hr
        clear hp hwd hit2 hc2 HS hit hr2 hpos hsa
        go_wp2_with fail
        refine HS2.out.mono ?_
        rintro e w3 ⟨⟨b, hb, rfl⟩, hc3⟩
        obtain rfl : b = true := hb (by decide)
        have HI3 := Lib.hid (hc3.at_ HI2.out (fun h => h))
        have HC3 := Lib.hid (HC2.out.trans hc3)
        clear hb hc3 HS2
        go_wp2_with fail
        go_roundw
        case rel => exact ⟨_, HI3.out, HC3.out⟩
        case measure =>
          simp only [World.iterPos, HI3.out, HIT.out]
          have := HP.out
          omega
      · have HA := Lib.hid hsa
        obtain ⟨r, hr2⟩ : ∃ r, r = (Utf8.decode s pos).1 := ⟨_, rfl⟩
        rw [← hr2] at hnx HS2
        clear hp hwd hit2 hc2 HS hit hr2 hsa
        go_wp2_with fail
        refine HS2.out.mono ?_
        rintro e w3 ⟨⟨b, hb, rfl⟩, hc3⟩
        have HI3 := Lib.hid (hc3.at_ HI2.out (fun h => h))
        have HC3 := Lib.hid (HC2.out.trans hc3)
        clear hb hc3 HS2
        go_wp2_with fail
        all_goals first
          | (refine ⟨⟨_, HI3.out, HC3.out⟩, ?_⟩
             simp only [World.iterPos, HI3.out, HIT.out]
             have := HP.out
             omega)
          | (go_ret
             exact ⟨⟨false, (fun h => by cases h), (fun h => absurd h HA.out), rfl⟩, HC3.out⟩)
    · have hnx : ∀ ty, (Instr.next (.pointer (some ⟨w.heap.size, 0, none⟩)) true ty).run Tryd.prog wr = _ := fun ty => Lib.run_next_end_at wr w.heap.size s pos ty hit hp
      go_wp2_with fail
      go_ret
      exact ⟨⟨true, (fun _ => by have := HSZ.out; omega), (fun _ => rfl), rfl⟩, HC.out⟩
end Go.Proofs.YtedkoplgfidjlaaDoor
