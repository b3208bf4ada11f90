/- bucket's May, Get, Items. -/
import Derived.Test.YtinofdfjaopdcaaBuckA
namespace Go.Proofs.Ytinofdfjaopdcaa
open Go.RowKit
set_option linter.unusedSimpArgs false
set_option linter.unusedVariables false

def Sto.may (B : Sto) (key : ByteArray) : Bool := fmay (B.fs.getD (B.no key) []) (places 256 3 key.data.toList)
theorem Sto.no_lt (B : Sto) (hp : 0 < B.fs.length) (key : ByteArray) : B.no key < B.fs.length := Nat.mod_lt _ hp

/-- a store's filter, with its cell in the row -/
theorem StoAt.at_ {w : World} {h : DevH} {t : StoH} {B : Sto} (hs : StoAt w h t B) {i : Nat} (hi : i < B.fs.length) :
    ∃ p q, t.ps[i]? = some (p, q) ∧ w.cell? ⟨t.G, i, none⟩ = some (.pointer (some ⟨p, 0, none⟩)) ∧ Flt w p q (B.fs.getD i []) := by
  have hl : i < t.ps.length := by rw [hs.len]; exact hi
  obtain ⟨cur, hg, hc⟩ := hs.row
  refine ⟨t.ps[i].1, t.ps[i].2, List.getElem?_eq_getElem hl, ?_, ?_⟩
  · rw [hg.cell]
    exact hc i _ (List.getElem?_eq_getElem hl)
  · refine hs.flt i _ _ (List.getElem?_eq_getElem hl) ?_
    rw [List.getD_eq_getElem?_getD, List.getElem?_eq_getElem hi]; rfl

set_option maxRecDepth 100000 in
theorem smay_calls {w : World} {h : DevH} {t : StoH} {B : Sto} (hs : StoAt w h t B) (hp : 0 < B.fs.length) (key : ByteArray) (hk : key.size ≤ 140737488351232) :
    Calls Try.prog 30 #[.pointer (some ⟨t.s, 0, none⟩), .string key] w fun e w' => e = .returned (.bool (B.may key)) ∧ Chg No w w' := by
  have HOF := fun W => Lib.hid (fun hc : Chg No w W => of_calls (hs.chgNo hc) hp key hk)
  have hlt := B.no_lt hp key
  obtain ⟨p, q, hps, cg, hf⟩ := hs.at_ hlt
  have HMB : Hid (B.may key = fmay (B.fs.getD (B.no key) []) (places 256 3 key.data.toList)) := rfl
  have c3 := hs.box.cell 3
  simp at c3
  have hl := hs.box.lt
  obtain ⟨cur, hcur, _⟩ := hs.row
  have hG := hcur.lt
  obtain ⟨i, hi⟩ : ∃ i, i = B.no key := ⟨_, rfl⟩
  obtain ⟨n, hn⟩ : ∃ n, n = B.fs.length := ⟨_, rfl⟩
  rw [← hi] at HOF hlt cg hf HMB
  rw [← hn] at hlt c3
  have HMY := fun W => Lib.hid (fun hc : Chg No w W => bmay_calls p q _ key W (hf.chg hc (fun h => h) (fun h => h)) hk)
  rw [← HMB.out] at HMY
  have HK3 := fun W => Lib.hid (fun hc : Chg No w W => (hs.chgNo hc).box.cell 3)
  rw [← hn] at HK3
  have HKG := fun W => Lib.hid (fun hc : Chg No w W => (hcur.chg hc (fun h => h)).cell i)
  have HCI : Hid (cur[i]? = some (.pointer (some ⟨p, 0, none⟩))) := by rw [← hcur.cell]; exact cg
  clear hs hp hcur hf hi hn hps
  go_enter Try.func30, Try.ntmps30
  go_wp2_with fail
  go_region_held3 (fun w' => w'.cell? ⟨t.s, 3, none⟩ = some (.slice (some ⟨t.G, 0, none⟩) n t.cap) ∧ w'.cell? ⟨t.G, i, none⟩ = some (.pointer (some ⟨p, 0, none⟩))) (first | go_keep)
    ((first
      | (go_at_call 67
         refine ((HOF _).out (by (repeat (first | (with_reducible exact Chg.refl _ _) | (with_reducible assumption) | (with_reducible refine Chg.drewN ?_ _) | (with_reducible refine Chg.drew ?_) | (with_reducible refine Chg.alloc ?_ _) | (with_reducible refine Chg.setCell ?_ (by first | (left; simp [DevH.foot]; done) | (right; simp; done) | (right; simp; omega)) _))))).mono ?_
         rintro e w1 ⟨rfl, hc1⟩
         have HC1 : Hid (Chg No w w1) := ((by (repeat (first | (with_reducible exact Chg.refl _ _) | (with_reducible assumption) | (with_reducible refine Chg.drewN ?_ _) | (with_reducible refine Chg.drew ?_) | (with_reducible refine Chg.alloc ?_ _) | (with_reducible refine Chg.setCell ?_ (by first | (left; simp [DevH.foot]; done) | (right; simp; done) | (right; simp; omega)) _))) : Chg No w _).trans hc1)
         clear hc1
         have c31 := (HK3 _).out HC1.out
         have cg1 := (HKG _).out HC1.out
         rw [HCI.out] at cg1
         simp at c31)
      | (go_at_call 70
         refine ((HMY _).out (by first | exact HC1.out.drewN _ | exact HC1.out | exact HC1.out.drew)).mono ?_
         rintro e w2 ⟨rfl, hc2⟩
         have HC2 : Hid (Chg No w w2) := ((by first | exact HC1.out.drewN _ | exact HC1.out | exact HC1.out.drew : Chg No w _).trans hc2)
         clear hc2
         have c32 := (HK3 _).out HC2.out
         have cg2 := (HKG _).out HC2.out
         rw [HCI.out] at cg2
         simp at c32)))
  all_goals
    go_wp2
    go_ret
    exact ⟨rfl, HC2.out⟩

/-- what Get answers -/
def Sto.get (B : Sto) (D : Dev) (key : ByteArray) : Item × Int :=
  if B.may key then (if B.lE D (B.no key) = 0 then (match (B.lL D (B.no key)).find? (keyed key) with | some x => (x, 0) | none => (Item.zero, 5)) else (Item.zero, B.lE D (B.no key))) else (Item.zero, 5)

theorem devN_new {N : Nat} {w w2 w3 : World} {h : DevH} {D D' : Dev} (h0 : DevN N w h D) (hd : DevN N w2 h D') (h2 : Chg h.foot w w2) (hc : Chg (fun k => w.heap.size ≤ k) w2 w3) : DevN N w3 h D' ∧ Chg h.foot w w3 := by
  obtain ⟨a, b, c, e, hb⟩ := h0.box
  obtain ⟨ps, hb2, _⟩ := h0.row
  obtain ⟨es, hb3, _⟩ := h0.map
  have h1 := hb.lt
  have h2' := hb2.lt
  have h3 := hb3.lt
  have h4 := h0.below
  refine ⟨hd.chg hc (by omega) (by omega) (by omega) (fun g _ _ hg _ _ => by omega), h2.then hc (fun i hi hT => ?_)⟩
  omega

abbrev zrow : Array Value := #[.string ⟨#[]⟩, .string ⟨#[]⟩, .int .u32 0, .int .i64 0, .int .u64 0]
theorem lst_le {k : Nat} : ∀ {b : List UInt8} {l : List Item}, lst k b = some l → l.length * 33 ≤ b.length := by
  induction k with
  | zero => intro b l h; cases h
  | succ k ih =>
    intro b l h
    rw [lst] at h
    cases ht : take b with
    | none => rw [ht] at h; simp at h; subst h; simp
    | bad => rw [ht] at h; cases h
    | ok x n =>
      rw [ht] at h
      have h1 := take_ok_len ht
      simp only [Option.map_eq_some_iff] at h
      obtain ⟨r, hr, rfl⟩ := h
      have h2 := ih hr
      rw [List.length_drop] at h2
      simp only [List.length_cons]
      omega
theorem lL_le {N : Nat} {w : World} {h : DevH} {D : Dev} (hd : DevN N w h D) (B : Sto) (i : Int) : (B.lL D i).length ≤ 12 := by
  unfold Sto.lL
  split
  · have h1 := read_le hd (B.first + i)
    unfold listL
    cases hl : listOf (D.read (B.first + i)) with
    | none => simp
    | some l =>
      have := lst_le (k := (D.read (B.first + i)).length + 1) hl
      simp only [Option.getD_some]
      omega
  · simp

set_option maxRecDepth 100000 in
theorem get_calls {N : Nat} {w : World} {h : DevH} {D : Dev} {t : StoH} {B : Sto} (hd : DevN N w h D) (hs : StoAt w h t B) (hp : 0 < B.fs.length) (key : ByteArray) (hk : key.size ≤ 140737488351232) :
    Calls Try.prog 29 #[.pointer (some ⟨t.s, 0, none⟩), .string key] w fun e w' => e = .returned (.tuple #[itemV (B.get D key).1, .int .i64 (B.get D key).2]) ∧ DevN N w' h D ∧ Chg h.foot w w' := by
  have HM := fun W => Lib.hid (fun hc : Chg No w W => smay_calls (hs.chgNo hc) hp key hk)
  have HOF := fun W => Lib.hid (fun hc : Chg No w W => of_calls (hs.chgNo hc) hp key hk)
  have hlt := B.no_lt hp key
  have hmost := hs.most
  obtain ⟨i, hi⟩ : ∃ i, i = B.no key := ⟨_, rfl⟩
  rw [← hi] at HOF hlt
  have HL := fun W => Lib.hid (fun hc : Chg No w W => blist_calls (hd.chgNo hc) (hs.chgNo hc) i (by omega))
  have HI := Lib.hid hi
  have HD := Lib.hid hd
  have HS := Lib.hid hs
  have hll := lL_le hd B i
  clear hi hd hs hlt
  cases hm : B.may key with
  | false =>
    have HG : Hid (B.get D key = (Item.zero, 5)) := by show _ = _; unfold Sto.get; rw [hm]; rfl
    rw [hm] at HM
    clear hm
    go_enter Try.func29, Try.ntmps29
    go_wp2_with fail
    refine ((HM _).out (by (repeat (first | (with_reducible exact Chg.refl _ _) | (with_reducible assumption) | (with_reducible refine Chg.drewN ?_ _) | (with_reducible refine Chg.drew ?_) | (with_reducible refine Chg.alloc ?_ _) | (with_reducible refine Chg.setCell ?_ (by first | (left; simp [DevH.foot]; done) | (right; simp; done) | (right; simp; omega)) _))))).mono ?_
    rintro e w1 ⟨rfl, hc1⟩
    have HC1 : Hid (Chg No w w1) := ((Chg.refl No w).alloc _).trans hc1
    have HZ := Lib.hid ((Blk.new w 32 zrow).chg hc1 (fun h => h))
    clear hc1
    (have z0 := HZ.out.cell 0; have z1 := HZ.out.cell 1; have z2 := HZ.out.cell 2; have z3 := HZ.out.cell 3; have z4 := HZ.out.cell 4; have f0 := HZ.out.frozen 0; have f1 := HZ.out.frozen 1; have f2 := HZ.out.frozen 2; have f3 := HZ.out.frozen 3; have f4 := HZ.out.frozen 4; simp at z0 z1 z2 z3 z4)
    go_wp2
    refine bodyPost_ret (v := .tuple #[itemV Item.zero, .int .i64 5]) (by (simp [results, Try.results29, go_sem, z0, z1, z2, z3, z4]; try exact ⟨rfl, rfl, rfl, rfl, rfl⟩)) rfl ⟨?_, ?_⟩
    · rw [HG.out]
    · have hcw1 := HC1.out
      exact ⟨HD.out.chgNo (by (repeat (first | (with_reducible exact Chg.refl _ _) | (with_reducible assumption) | (with_reducible refine Chg.drewN ?_ _) | (with_reducible refine Chg.drew ?_) | (with_reducible refine Chg.alloc ?_ _) | (with_reducible refine Chg.setCell ?_ (by first | (left; simp [DevH.foot]; done) | (right; simp; done) | (right; simp; omega)) _)))), (by (repeat (first | (with_reducible exact Chg.refl _ _) | (with_reducible assumption) | (with_reducible refine Chg.drewN ?_ _) | (with_reducible refine Chg.drew ?_) | (with_reducible refine Chg.alloc ?_ _) | (with_reducible refine Chg.setCell ?_ (by first | (left; simp [DevH.foot]; done) | (right; simp; done) | (right; simp; omega)) _))) : Chg No w _).mono (fun _ _ h => h.elim)⟩
  | true =>
    rw [hm] at HM
    have HMM := Lib.hid hm
    clear hm
    have hfoot : ¬ h.foot w.heap.size := by
      obtain ⟨a, b, c, e, hb⟩ := HD.out.box
      obtain ⟨ps, hb2, _⟩ := HD.out.row
      obtain ⟨es, hb3, _⟩ := HD.out.map
      have := hb.lt
      have := hb2.lt
      have := hb3.lt
      rintro (h | h | h) <;> omega
    have HFT := Lib.hid hfoot
    clear hfoot
    go_enter Try.func29, Try.ntmps29
    go_wp2_with fail
    refine ((HM _).out (by (repeat (first | (with_reducible exact Chg.refl _ _) | (with_reducible assumption) | (with_reducible refine Chg.drewN ?_ _) | (with_reducible refine Chg.drew ?_) | (with_reducible refine Chg.alloc ?_ _) | (with_reducible refine Chg.setCell ?_ (by first | (left; simp [DevH.foot]; done) | (right; simp; done) | (right; simp; omega)) _))))).mono ?_
    rintro e w1 ⟨rfl, hc1⟩
    have HC1 : Hid (Chg No w w1) := ((Chg.refl No w).alloc _).trans hc1
    have HZ1 := Lib.hid ((Blk.new w 32 zrow).chg hc1 (fun h => h))
    clear hc1 HM
    go_wp2_with fail
    refine ((HOF _).out HC1.out).mono ?_
    rintro e w2 ⟨rfl, hc2⟩
    have HC2 : Hid (Chg No w w2) := HC1.out.trans hc2
    have HZ2 := Lib.hid (HZ1.out.chg hc2 (fun h => h))
    clear hc2 HC1 HZ1 HOF
    go_wp2_with fail
    refine ((HL _).out HC2.out).mono ?_
    rintro e w3 ⟨v, rfl, ho3, hd3, hc3⟩
    have HC3 : Hid (Chg h.foot w w3) := HC2.out.mono (fun _ _ h => h.elim) |>.trans hc3
    have HZ := Lib.hid (HZ2.out.chg hc3 HFT.out)
    have HD3 := Lib.hid hd3
    have hw3 : w.heap.size < w3.heap.size := HZ.out.lt
    obtain ⟨l, hl⟩ : ∃ l, l = B.lL D i := ⟨_, rfl⟩
    obtain ⟨z, hz⟩ : ∃ z, z = B.lE D i := ⟨_, rfl⟩
    rw [← hl] at ho3 hll
    rw [← hz]
    have HGG : Hid (B.get D key = if z = 0 then (match l.find? (keyed key) with | some x => (x, 0) | none => (Item.zero, 5)) else (Item.zero, z)) := by
      show _ = _
      unfold Sto.get
      rw [HMM.out, if_pos rfl, ← HI.out, ← hl, ← hz]
    have HO3 := Lib.hid ho3
    clear ho3 hd3 hc3 hl hz HC2 HZ2 HL
    by_cases hz : z = 0
    · subst hz
      have HG2 : Hid (B.get D key = (match l.find? (keyed key) with | some x => (x, 0) | none => (Item.zero, 5))) := by
        show _ = _
        rw [HGG.out]; rfl
      clear HGG
      obtain ⟨A, c, rfl, hnc, hrd⟩ := own_slice HO3.out
      have HRD := Lib.hid hrd
      clear hrd
      go_wp2
      go_loopg [29] l.length (fun g v29 wr => ∃ k : Nat, v29 = .int .i64 k ∧ k ≤ l.length ∧ g = l.length - k ∧ Hid (Chg No w3 wr ∧ ∀ x ∈ l.take k, keyed key x = false))
      case atStart => exact ⟨0, rfl, by omega, rfl, ⟨Chg.refl _ _, by simp⟩⟩
      case round =>
        obtain ⟨k, rfl, hk, rfl, H⟩ := hrel
        have HZ4 := Lib.hid (HZ.out.chg H.out.1 (fun h => h))
        have hcwr : Chg (fun k => w.heap.size ≤ k) w3 wr := H.out.1.mono (fun _ _ h => h.elim)
        have HCW := Lib.hid hcwr
        have hw4 : w.heap.size < wr.heap.size := HZ4.out.lt
        clear HZ hcwr
        by_cases h0 : k < l.length
        · obtain ⟨x, hx⟩ : ∃ x, l[k]? = some x := ⟨_, List.getElem?_eq_getElem h0⟩
          have hr1 := HRD.out.chg H.out.1 (fun _ _ _ _ h => h)
          obtain ⟨g, off, rfl, hg, hc⟩ := hr1.at_ (j := k * 5) (by omega)
          have c0 := hc (k * 5 + 0) _ (its_get l k 0 x hx (by omega))
          have c1 := hc (k * 5 + 1) _ (its_get l k 1 x hx (by omega))
          have c2 := hc (k * 5 + 2) _ (its_get l k 2 x hx (by omega))
          have c3 := hc (k * 5 + 3) _ (its_get l k 3 x hx (by omega))
          have c4 := hc (k * 5 + 4) _ (its_get l k 4 x hx (by omega))
          simp only [itc, List.getElem_cons_zero, List.getElem_cons_succ, ← Nat.add_assoc, Nat.add_zero] at c0 c1 c2 c3 c4
          have HX := Lib.hid hx
          have hse := str_eq x.key key
          have HZ := HZ4
          clear hx hr1 hc
          cases hb : keyed key x with
          | true =>
            unfold keyed at hb
            rw [hb] at hse
            have HB := Lib.hid hb
            clear hb
            (have z0 := HZ.out.cell 0; have z1 := HZ.out.cell 1; have z2 := HZ.out.cell 2; have z3 := HZ.out.cell 3; have z4 := HZ.out.cell 4; have f0 := HZ.out.frozen 0; have f1 := HZ.out.frozen 1; have f2 := HZ.out.frozen 2; have f3 := HZ.out.frozen 3; have f4 := HZ.out.frozen 4; simp at z0 z1 z2 z3 z4)
            go_wp2
            have hfind : l.find? (keyed key) = some x := by
              rw [← List.take_append_drop k l, List.find?_append, List.find?_eq_none.2 (by intro y hy; simp [H.out.2 y hy]), List.drop_eq_getElem_cons h0]
              have : l[k] = x := by have := HX.out; rw [List.getElem?_eq_getElem h0] at this; injection this
              rw [this]
              simp [keyed, HB.out]
            have hb5 := (((((HZ4.out.set_ 0 (.string x.key)).set_ 1 (.string x.val)).set_ 2 (.int .u32 x.flags.toNat)).set_ 3 (.int .i64 x.exp.toInt)).set_ 4 (.int .u64 x.ver.toNat)).alloc (.cells #[.string x.key, .string x.val, .int .u32 x.flags.toNat, .int .i64 x.exp.toInt, .int .u64 x.ver.toNat] 32)
            have g0 := (hb5.cell 0).trans (rfl : _ = some (Value.string x.key))
            have g1 := (hb5.cell 1).trans (rfl : _ = some (Value.string x.val))
            have g2 := (hb5.cell 2).trans (rfl : _ = some (Value.int .u32 x.flags.toNat))
            have g3 := (hb5.cell 3).trans (rfl : _ = some (Value.int .i64 x.exp.toInt))
            have g4 := (hb5.cell 4).trans (rfl : _ = some (Value.int .u64 x.ver.toNat))
            clear hb5
            refine bodyPost_ret (v := .tuple #[itemV x, .int .i64 0]) (by simp [results, Try.results29, go_sem, g0, g1, g2, g3, g4]) rfl ⟨?_, ?_⟩
            · rw [HG2.out, hfind]
            · refine devN_new HD.out HD3.out HC3.out ?_
              have := HCW.out
              (repeat (first | (with_reducible exact Chg.refl _ _) | (with_reducible assumption) | (with_reducible refine Chg.drewN ?_ _) | (with_reducible refine Chg.drew ?_) | (with_reducible refine Chg.alloc ?_ _) | (with_reducible refine Chg.setCell ?_ (by first | (left; simp [DevH.foot]; done) | (right; simp; done) | (right; simp; omega)) _)))
          | false =>
            unfold keyed at hb
            rw [hb] at hse
            have HB := Lib.hid hb
            clear hb HZ
            go_wp2
            go_roundg (l.length - (k + 1))
            case measure => omega
            case rel =>
              refine ⟨k + 1, rfl, by omega, rfl, H.out.1.alloc _, ?_⟩
              intro y hy
              rw [List.take_add_one, HX.out] at hy
              rcases List.mem_append.1 hy with hy | hy
              · exact H.out.2 y hy
              · simp at hy
                rw [hy]; exact HB.out
        · have e3 : k = l.length := by omega
          have HZ := HZ4
          have hno := H.out.2
          rw [e3, List.take_length] at hno
          have HNO := Lib.hid hno
          clear HZ4 H hno
          (have z0 := HZ.out.cell 0; have z1 := HZ.out.cell 1; have z2 := HZ.out.cell 2; have z3 := HZ.out.cell 3; have z4 := HZ.out.cell 4; have f0 := HZ.out.frozen 0; have f1 := HZ.out.frozen 1; have f2 := HZ.out.frozen 2; have f3 := HZ.out.frozen 3; have f4 := HZ.out.frozen 4; simp at z0 z1 z2 z3 z4)
          go_wp2
          have hfind : l.find? (keyed key) = none := List.find?_eq_none.2 (by intro y hy; simp [HNO.out y hy])
          refine bodyPost_ret (v := .tuple #[itemV Item.zero, .int .i64 5]) (by (simp [results, Try.results29, go_sem, z0, z1, z2, z3, z4]; try exact ⟨rfl, rfl, rfl, rfl, rfl⟩)) rfl ⟨?_, ?_⟩
          · rw [HG2.out, hfind]
          · refine devN_new HD.out HD3.out HC3.out ?_
            have := HCW.out
            (repeat (first | (with_reducible exact Chg.refl _ _) | (with_reducible assumption) | (with_reducible refine Chg.drewN ?_ _) | (with_reducible refine Chg.drew ?_) | (with_reducible refine Chg.alloc ?_ _) | (with_reducible refine Chg.setCell ?_ (by first | (left; simp [DevH.foot]; done) | (right; simp; done) | (right; simp; omega)) _)))
    · have HG2 : Hid (B.get D key = (Item.zero, z)) := by
        show _ = _
        rw [HGG.out, if_neg hz]
      have hzb : (z != 0) = true := by simp [hz]
      clear HGG hz
      (have z0 := HZ.out.cell 0; have z1 := HZ.out.cell 1; have z2 := HZ.out.cell 2; have z3 := HZ.out.cell 3; have z4 := HZ.out.cell 4; have f0 := HZ.out.frozen 0; have f1 := HZ.out.frozen 1; have f2 := HZ.out.frozen 2; have f3 := HZ.out.frozen 3; have f4 := HZ.out.frozen 4; simp at z0 z1 z2 z3 z4)
      go_wp2
      refine bodyPost_ret (v := .tuple #[itemV Item.zero, .int .i64 z]) (by (simp [results, Try.results29, go_sem, z0, z1, z2, z3, z4]; try exact ⟨rfl, rfl, rfl, rfl, rfl⟩)) rfl ⟨?_, ?_⟩
      · rw [HG2.out]
      · refine devN_new HD.out HD3.out HC3.out ?_
        (repeat (first | (with_reducible exact Chg.refl _ _) | (with_reducible assumption) | (with_reducible refine Chg.drewN ?_ _) | (with_reducible refine Chg.drew ?_) | (with_reducible refine Chg.alloc ?_ _) | (with_reducible refine Chg.setCell ?_ (by first | (left; simp [DevH.foot]; done) | (right; simp; done) | (right; simp; omega)) _)))

def Sto.allL (B : Sto) (D : Dev) (n : Nat) : List Item := (List.range n).flatMap fun (i : Nat) => B.lL D (i : Int)
theorem Sto.allL_succ (B : Sto) (D : Dev) (n : Nat) : B.allL D (n + 1) = B.allL D n ++ B.lL D (n : Int) := by simp [Sto.allL, List.range_succ]

set_option maxRecDepth 100000 in
theorem sitems_calls {N : Nat} {w : World} {h : DevH} {D : Dev} {t : StoH} {B : Sto} (hd : DevN N w h D) (hs : StoAt w h t B) (he : ∀ i : Nat, i < B.fs.length → B.lE D i = 0) :
    Calls Try.prog 31 #[.pointer (some ⟨t.s, 0, none⟩)] w fun e w' => ∃ v, e = .returned (.tuple #[v, .int .i64 0]) ∧ w'.ownsRow w.heap.size tItem 5 v (B.allL D B.fs.length).length (its (B.allL D B.fs.length)) ∧ DevN N w' h D ∧ Chg h.foot w w' := by
  have c3 := hs.box.cell 3
  simp at c3
  have hmost := hs.most
  obtain ⟨n, hn⟩ : ∃ n, n = B.fs.length := ⟨_, rfl⟩
  rw [← hn] at c3 he hmost ⊢
  have HE := Lib.hid he
  have HD := Lib.hid hd
  have HS := Lib.hid hs
  clear he hd hs hn
  go_enter Try.func31, Try.ntmps31
  go_wp2
  go_loopg [4, 13] n (fun g v4 v13 wr => ∃ k : Nat, v13 = .int .i64 k ∧ k ≤ n ∧ g = n - k ∧ Hid (DevN N wr h D ∧ Chg h.foot w wr ∧ wr.ownsRow w.heap.size tItem 5 v4 (B.allL D k).length (its (B.allL D k)) ∧ (B.allL D k).length ≤ 12 * k))
  case atStart => exact ⟨0, rfl, by omega, rfl, ⟨HD.out, Chg.refl _ _, World.ownsRow_nil _ _ _ _, by simp [Sto.allL]⟩⟩
  case round =>
    obtain ⟨k, rfl, hk, rfl, H⟩ := hrel
    by_cases h0 : k < n
    · have HL := Lib.hid (blist_calls H.out.1 (HS.out.foot HD.out H.out.2.1) k (by omega))
      have hbs := HL
      rw [HE.out k h0] at HL
      have hll := lL_le HD.out B k
      have hal := H.out.2.2.2
      clear hbs
      go_wp2_with fail
      refine HL.out.mono ?_
      rintro e w1 ⟨v, rfl, ho1, hd1, hc1⟩
      obtain ⟨A, c, rfl, hnc, hrd⟩ := own_slice ho1
      have HRD := Lib.hid hrd
      have HD1 := Lib.hid hd1
      have HC1 := Lib.hid hc1
      have hfo : ∀ kk, Value.ownBlock _ = some kk → ¬ h.foot kk := fun kk hkk hf => by
        have h1 := (own_new H.out.2.2.1) kk hkk
        obtain ⟨a, b, c, e, hb⟩ := HD.out.box
        obtain ⟨ps, hb2, _⟩ := HD.out.row
        obtain ⟨es, hb3, _⟩ := HD.out.map
        have := hb.lt
        have := hb2.lt
        have := hb3.lt
        rcases hf with hf | hf | hf <;> omega
      have HO1 := Lib.hid (own_chg H.out.2.2.1 hc1 hfo)
      have hsz : w.heap.size ≤ w1.heap.size := by have := H.out.2.1.size; have := hc1.size; omega
      clear hrd hd1 hc1 ho1 hfo
      go_wp2_with (first
        | (at_builtin; refine wpList_app _ rfl (.tmp 25) (.tmp 26) 33 rfl tItem Try.underlying33 ti_item rfl (by omega) w.heap.size _ _ _ rfl HO1.out tItem _ _ _ _ rfl HRD.out its_one_cell (by simp only [maxLen]; omega) (by omega) (by omega) ?_; intro v2 w2 ho2 hg2 hb2; have HO2 := Lib.hid ho2; have HG2 := Lib.hid hg2; clear ho2 hg2 hb2))
      go_roundg (n - (k + 1))
      case measure => omega
      case rel =>
        refine ⟨k + 1, rfl, by omega, rfl, ?_⟩
        have hch : Chg (fun j => w.heap.size ≤ j) w1 w2 := (Chg.refl _ _).grown HG2.out (fun k' hk' => .inl (own_new HO1.out k' hk'))
        have := devN_new HD.out HD1.out (H.out.2.1.trans HC1.out) hch
        refine ⟨this.1, this.2, ?_, ?_⟩
        · rw [Sto.allL_succ, List.length_append, its_append]
          exact HO2.out
        · rw [Sto.allL_succ, List.length_append]; omega
    · have e3 : k = n := by omega
      subst e3
      go_wp2
      go_ret2
      exact ⟨_, rfl, H.out.2.2.1, H.out.1, H.out.2.1⟩

end Go.Proofs.Ytinofdfjaopdcaa
