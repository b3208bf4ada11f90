/- Packed texts: RegN, ImgL, ImgM, RegS, EngS. -/
import Derived.Test.YtplpbbdakihnfaaGreatPq17
import Derived.Test.YtplpbbdakihnfaaGreatPq18
import Derived.Test.YtplpbbdakihnfaaGreatPq05
import Derived.Test.YtplpbbdakihnfaaGreatPq06
import Derived.Test.YtplpbbdakihnfaaGreatPq10
import Derived.Test.YtplpbbdakihnfaaGreatPq15
import Derived.Test.YtplpbbdakihnfaaGreatPq16
import Derived.Test.YtplpbbdakihnfaaGreatPq11
set_option linter.unusedSimpArgs false
set_option linter.unusedVariables false
section
namespace Go.Proofs.YtplpbbdakihnfaaGreat
open Go.RowKit
open Go.ChangeMaps (setBlock)
attribute [local go_sem ↓] Go.wp_at_zero Go.wp_at_succ
theorem ti_seal : TI Tryz.prog tSeal (.agg #[.int .u64 0, .slice none 0 0]) 2 32 := (by kernel_rfl : (Tryz.prog.info? tSeal).map (fun i => (i.zero, i.size, i.bytes)) = some (some (.agg #[.int .u64 0, .slice none 0 0]), 2, 32))
def opTopT (D : Dev) (first i : Nat) : Nat := (List.range i).foldl (fun m i => ldTop (D.rpg first i) m 4) 0
theorem opTopT_succ (D : Dev) (first i : Nat) : opTopT D first (i + 1) = ldTop (D.rpg first i) (opTopT D first i) 4 := by unfold opTopT; rw [List.range_succ, List.foldl_append]; rfl
theorem opTopT_lt (D : Dev) (first i : Nat) : opTopT D first i < 18446744073709551616 := by
  induction i with
  | zero => simp [opTopT]
  | succ i ih => rw [opTopT_succ]; exact ldTop_lt _ _ ih 4
theorem opRegs_succ (D : Dev) (first i : Nat) : opRegs D first (i + 1) = opRegs D first i ++ [ldS (D.rpg first i)] := by unfold opRegs; rw [List.range_succ, List.map_append]; rfl
theorem opRegs_len (D : Dev) (first i : Nat) : (opRegs D first i).length = i := by simp [opRegs]
theorem ldS_ok (P : Nat → Pg) : (ldS P).l.length ≤ 1000 ∧ (ldS P).num < 18446744073709551616 := by
  unfold ldS
  cases hl : listOf (ldB P 4) with
  | none => exact ⟨by simp [Sealed.no], by simp [Sealed.no]⟩
  | some l =>
    have h1 := listOf_len hl
    have h2 := ldB_le P 4
    simp only
    split
    · exact ⟨by simp only; omega, pg_rn_lt _ _⟩
    · exact ⟨by simp [Sealed.no], by simp [Sealed.no]⟩
structure OpMid (w : World) (h : DevH) (D : Dev) (N first M L i : Nat) (R : Value) (wr : World) : Prop where
  box : Blk wr L tLog (openBox h D.losses first R (opTopT D first i) M)
  regs : ∃ ses : List (Nat × Value), ses.length = i ∧ wr.ownsRow w.heap.size tSeal 2 R i (secs ses) ∧ ∀ (j : Nat) (S : Sealed), (opRegs D first i)[j]? = some S → ∃ v, ses[j]? = some (S.num, v) ∧ wr.ownsRow w.heap.size tItem 5 v S.l.length (its S.l)
  map : MapIs skey wr M (amap plv ([] : Keys))
  dev : DevN N wr h D
  chg : Chg h.foot w wr
  far : M ≠ h.M
theorem rd_two (w : World) (t : TypeId) (a b : Value) : Rd (w.alloc (.cells #[a, b] t)) t (some ⟨w.heap.size, 0, none⟩) (1 * 2) [a, b] := by
  have := Rd.ofBlk (k := 2) (Blk.new w t #[a, b]) (by simp)
  simpa using this
theorem OpMid.rows {w wr w1 : World} {h : DevH} {D : Dev} {N first M L i : Nat} {R : Value} {S : Nat → Prop} (H : OpMid w h D N first M L i R wr) (hc : Chg S wr w1) (h1 : ∀ k cs T fz, wr.heap[k]? = some (.cells cs T fz) → T = tSeal ∨ T = tItem → ¬ S k) :
    ∃ ses : List (Nat × Value), ses.length = i ∧ w1.ownsRow w.heap.size tSeal 2 R i (secs ses) ∧ ∀ (j : Nat) (S : Sealed), (opRegs D first i)[j]? = some S → ∃ v, ses[j]? = some (S.num, v) ∧ w1.ownsRow w.heap.size tItem 5 v S.l.length (its S.l) := by
  obtain ⟨ses, e1, e2, e3⟩ := H.regs
  refine ⟨ses, e1, own_chg e2 hc (fun k hk => by obtain ⟨cs, hg⟩ := own_cells_at e2 hk; exact h1 k _ _ _ hg (.inl rfl)), fun j S hS => ?_⟩
  obtain ⟨v, e4, e5⟩ := e3 j S hS
  exact ⟨v, e4, own_chg e5 hc (fun k hk => by obtain ⟨cs, hg⟩ := own_cells_at e5 hk; exact h1 k _ _ _ hg (.inr rfl))⟩
theorem OpMid.next {N : Nat} {w wr w1 w9 : World} {h : DevH} {D : Dev} {first M L i : Nat} {Ar A9 : Option Addr} {cr c9 b9 : Nat} {S : Sealed} {v : Value} {ses : List (Nat × Value)} (H : OpMid w h D N first M L i (.slice Ar i cr) wr)
    (hS : opRegs D first (i + 1) = opRegs D first i ++ [S]) (hM : w.heap.size ≤ M) (hML : M < wr.heap.size) (hLz : w.heap.size ≤ L)
    (hc1 : Chg (fun k => h.foot k ∨ k = L) wr w1) (hd1 : DevN N w1 h D) (hb1 : Blk w1 L tLog (openBox h D.losses first (.slice Ar i cr) (opTopT D first (i + 1)) M)) (hov : w1.ownsRow b9 tItem 5 v S.l.length (its S.l)) (hb9 : wr.heap.size ≤ b9)
    (hs9 : ses.length = i ∧ w1.ownsRow w.heap.size tSeal 2 (.slice Ar i cr) i (secs ses) ∧ ∀ (j : Nat) (S : Sealed), (opRegs D first i)[j]? = some S → ∃ v, ses[j]? = some (S.num, v) ∧ w1.ownsRow w.heap.size tItem 5 v S.l.length (its S.l))
    (ho9 : w9.ownsRow w.heap.size tSeal 2 (.slice A9 (i + 1) c9) (i + 1) (secs ses ++ [.int .u64 S.num, v])) (hg9 : Chg (fun k => (Value.slice Ar i cr).ownBlock = some k) w1 w9) :
    OpMid w h D N first M L (i + 1) (.slice A9 (i + 1) c9) (w9.setCell ⟨L, 3, none⟩ (.slice A9 (i + 1) c9)) := by
  have hc : Chg (fun k => k = L) w9 (w9.setCell ⟨L, 3, none⟩ (.slice A9 (i + 1) c9)) := Chg.setCell (S := fun k => k = L) (Chg.refl _ _) (.inl rfl) _
  obtain ⟨g1, g2, g3⟩ := hs9
  have hbox9 := hb1.chg hg9 (fun e => own_other g2 hb1 (by decide) e)
  have hit : ∀ {b n : Nat} {v : Value} {xs : List Value}, w1.ownsRow b tItem 5 v n xs → (w9.setCell ⟨L, 3, none⟩ (.slice A9 (i + 1) c9)).ownsRow b tItem 5 v n xs := by
    intro b n v xs ho
    have h9 := own_chg ho hg9 (fun k hk e => own_ne ho g2 (by decide) k hk e)
    exact own_chg h9 hc (fun k hk e => by obtain ⟨cs, hg⟩ := own_cells_at h9 hk; subst e; have := hbox9; unfold Blk at this; rw [hg] at this; injection this with this; injection this with _ e2; exact absurd e2 (by decide))
  have hwz := H.chg.size
  have hd9 : DevN N w9 h D := dev_ty hd1 hg9 (fun k _ e => by obtain ⟨cs, hg⟩ := own_cells_at g2 e; exact ⟨cs, tSeal, _, hg, by decide, by decide, by decide, by decide⟩)
  refine ⟨?_, ?_, ?_, ?_, ?_, H.far⟩
  · have := hbox9.set_ 3 (.slice A9 (i + 1) c9)
    simpa [openBox] using this
  · refine ⟨ses ++ [(S.num, v)], by simp [g1], ?_, ?_⟩
    · have e : secs (ses ++ [(S.num, v)]) = secs ses ++ [.int .u64 S.num, v] := by rw [secs_append]; rfl
      rw [e]
      exact own_chg ho9 hc (fun k hk e => by obtain ⟨cs, hg⟩ := own_cells_at ho9 hk; subst e; have := hbox9; unfold Blk at this; rw [hg] at this; injection this with this; injection this with _ e2; exact absurd e2 (by decide))
    · intro j S' hS'
      rw [hS] at hS'
      have hlen := opRegs_len D first i
      by_cases hj : j < i
      · rw [List.getElem?_append_left (by omega)] at hS'
        obtain ⟨v', e1, e2⟩ := g3 j S' hS'
        exact ⟨v', by rw [List.getElem?_append_left (by omega)]; exact e1, hit e2⟩
      · have hj2 : j = i := by
          have := (List.getElem?_eq_some_iff.1 hS').1
          simp at this
          omega
        subst hj2
        rw [List.getElem?_append_right (by omega), hlen] at hS'
        simp at hS'
        subst hS'
        exact ⟨v, by rw [List.getElem?_append_right (by omega), g1]; simp, own_base (hit hov) (by omega)⟩
  · have hm1 := H.map.chg hc1 (by rintro (hf | he); exact (by rcases hf with hf | hf | hf; (obtain ⟨a, b, c, e', hb⟩ := H.dev.box; exact H.map.ne_blk hb hf); (obtain ⟨ps, hb, _⟩ := H.dev.row; exact H.map.ne_blk hb hf); exact H.far hf); exact H.map.ne_blk H.box he)
    have hm9 := hm1.chg hg9 (fun e => own_no_map (W := w1) hm1 g2 _ e rfl)
    exact hm9.chg hc (fun e => hm9.ne_blk hbox9 e)
  · exact dev_ty hd9 hc (fun k _ e => by subst e; exact ⟨_, tLog, _, hbox9, by decide, by decide, by decide, by decide⟩)
  · have h1 : Chg h.foot w w1 := H.chg.then hc1 (fun k hk e => by rcases e with e | e; exact e; omega)
    have h2 : Chg h.foot w w9 := h1.then hg9 (fun k hk e => by have := own_new g2 k e; omega)
    exact h2.then hc (fun k hk e => by omega)
def layT (i : Nat) (ks : Keys) (l : List Item) (k : Nat) : Keys := (l.zipIdx.take k).foldl (fun ks p => aset ks p.1.key ⟨false, i, p.2⟩) ks
theorem layT_succ (i : Nat) (ks : Keys) {l : List Item} {k : Nat} {x : Item} (h : l[k]? = some x) : layT i ks l (k + 1) = aset (layT i ks l k) x.key ⟨false, i, k⟩ := foldl_take _ _ _ _ _ (zip_get h)
theorem layT_all (i : Nat) (ks : Keys) (l : List Item) : layT i ks l l.length = layK i ks l := by
  unfold layT
  rw [List.take_of_length_le (by simp)]
  rfl
theorem Lg.Ok.lay {G : Lg} (ho : G.Ok) {q k : Nat} {S : Sealed} {x : Item} (hS : G.regs[q]? = some S) (hx : S.l[k]? = some x) : ({ G with keys := aset G.keys x.key ⟨false, q, k⟩ } : Lg).Ok :=
  { ho with
    keys := by
      intro key p hp
      have h : aget (aset G.keys x.key ⟨false, q, k⟩) key = some p := hp
      rw [aget_aset] at h
      split at h
      · rename_i hk
        injection h with h
        subst h
        unfold Lg.plOk
        simp only [Bool.false_eq_true, if_false]
        exact ⟨S, x, hS, hx, hk⟩
      · exact ho.keys key p h }
theorem byNum_lt (regs : List Sealed) : ∀ i ∈ byNum regs, i < regs.length := by
  intro i hi
  unfold byNum sortR at hi
  rw [List.mem_reverse] at hi
  have := (insL_mem (rnum regs) i (counts regs)).1 hi
  exact counts_mem this
theorem byNum_len (regs : List Sealed) : (byNum regs).length ≤ regs.length := by
  unfold byNum sortR
  rw [List.length_reverse]
  have h1 := insL_length (rnum regs) (counts regs)
  have h2 := counts_len regs regs.length
  unfold insL at h1
  rw [h1]; exact h2
def Lg.bare (D : Dev) (first n : Nat) : Lg := { losses := D.losses, first, regs := opRegs D first n, opn := [], number := opTopT D first n, keys := [] }
theorem OpMid.log {N : Nat} {w wr : World} {h : DevH} {D : Dev} {first M L n : Nat} {R : Value} (H : OpMid w h D N first M L n R wr) (hM : w.heap.size ≤ M) (hL : w.heap.size ≤ L) (hn : 1 ≤ n) (hm : n ≤ 64) (hf : first + 4 * n ≤ 4096) :
    LgAt wr h ⟨L, M, R, .slice none 0 0, fun k => w.heap.size ≤ k ∧ k < wr.heap.size⟩ (Lg.bare D first n) := by
  have hlen := opRegs_len D first n
  refine { box := ?_, regs := ?_, opn := World.ownsRow_nil _ _ _ _, map := H.map, ownL := ⟨hL, H.box.lt⟩, ownM := ⟨hM, H.map.lt⟩, ownR := ?_, ownO := fun k hk => by simp [Value.ownBlock] at hk, lt := fun k hk => hk.2, far := H.far, ok := ?_ }
  · have := H.box
    simpa [openBox, Lg.bare, isum] using this
  · obtain ⟨ses, e1, e2, e3⟩ := H.regs
    refine ⟨ses, by show _ = (opRegs D first n).length; rw [hlen]; exact e1, by show World.ownsRow _ 0 tSeal 2 R (opRegs D first n).length _; rw [hlen]; exact own_base e2 (Nat.zero_le _), fun j S hS => ?_⟩
    obtain ⟨v, e4, e5⟩ := e3 j S hS
    obtain ⟨A, c, rfl, hnc, hr⟩ := own_slice e5
    refine ⟨_, e4, A, c, rfl, hnc, hr, fun g off h0 hA => ⟨?_, by simp [Value.ownBlock]⟩⟩
    have := e5.lt g (by
      rcases e5.2 with ⟨e, _⟩ | ⟨g', cap, cur, e, _⟩
      · injection e with e; rw [hA] at e; cases e
      · injection e with e
        rw [hA] at e
        simp only [Option.some.injEq, Addr.mk.injEq, and_true] at e
        rw [hA, e.1, e.2]
        rfl)
    exact this
  · intro k hk
    obtain ⟨ses, e1, e2, e3⟩ := H.regs
    exact e2.lt k hk
  · refine { pos := by show 0 < (opRegs D first n).length; omega, most := by show (opRegs D first n).length ≤ 64; omega, fit := by show first + 4 * (opRegs D first n).length ≤ 4096; omega, num := opTopT_lt _ _ _, small := ?_, good := rfl, sum := by simp [Lg.bare, isum], keys := fun key p hp => by cases hp }
    intro S hS
    unfold Lg.bare opRegs at hS
    obtain ⟨j, _, rfl⟩ := List.mem_map.1 hS
    exact ldS_ok _
section
variable {N : Nat} {w : World} {h : DevH} {D : Dev}
set_option maxRecDepth 100000 in
set_option maxHeartbeats 8000000 in
theorem gopen_calls (hd : DevN N w h D) (first n : Nat) (hn : 1 ≤ n) (hm : n < 20) (hf : first + 4 * n ≤ D.n) (hoff : D.off = false) :
    Calls Tryz.prog 39 #[.pointer (some ⟨h.d, 0, none⟩), .int .i64 first, .int .i64 n] w fun e w' => ∃ t : LgH, e = .returned (.tuple #[.pointer (some ⟨t.L, 0, none⟩), .int .i64 0]) ∧ LgAt w' h t (Lg.opened D first n) ∧ DevN N w' h D ∧ (∀ k, t.own k → w.heap.size ≤ k) ∧ Chg h.foot w w' := by
  have HP := Lib.hid (pages_calls hd)
  have HPO := Lib.hid (power_calls hd)
  have HLO := Lib.hid (losses_calls hd)
  rw [hoff] at HPO
  have HOFF := Lib.hid hoff
  have hnm := hd.nmost
  have HD := Lib.hid hd
  have HFIT := Lib.hid hf
  have hMf : w.heap.size ≠ h.M := fun e => by have := foot_size hd (k := h.M) (.inr (.inr rfl)); omega
  have HMF := Lib.hid hMf
  obtain ⟨dn, hdn⟩ : ∃ dn, dn = D.n := ⟨_, rfl⟩
  rw [← hdn] at HP hf hnm
  have hmm := @run_makeMap Tryz.prog
  clear hd hdn hoff hMf
  have e1 : IntKind.i64.wrap (4 * (n : Int)) = 4 * (n : Int) := IntWalk.i64_in _ (by omega)
  have e2 : IntKind.i64.wrap ((dn : Int) - (first : Int)) = (dn : Int) - (first : Int) := IntWalk.i64_in _ (by omega)
  have b1 : decide ((first : Int) < 0) = false := decide_eq_false (by omega)
  have b2 : decide ((n : Int) < 1) = false := decide_eq_false (by omega)
  have b3 : decide ((64 : Int) < (n : Int)) = false := decide_eq_false (by omega)
  have b4 : decide ((dn : Int) < (first : Int)) = false := decide_eq_false (by omega)
  have b4' : ¬ dn < first := by omega
  have b5 : decide ((dn : Int) - (first : Int) < 4 * (n : Int)) = false := decide_eq_false (by omega)
  obtain ⟨lo, hlo⟩ : ∃ lo, lo = D.losses := ⟨_, rfl⟩
  rw [← hlo] at HLO
  have HLOE := Lib.hid hlo
  clear hlo
  go_enter Tryz.func39, Tryz.ntmps39
  go_wp2_with (first
    | (go_at_call 33; refine HP.out.mono ?_; rintro e w' ⟨rfl, rfl⟩)
    | (go_at_call 34; refine HPO.out.mono ?_; rintro e w' ⟨rfl, rfl⟩)
    | (go_at_call 35; refine HLO.out.mono ?_; rintro e w' ⟨rfl, rfl⟩))
  go_loopg [52] n (fun gk vi wr => ∃ (i : Nat) (R : Value), gk = n - i ∧ i ≤ n ∧ vi = .int .i64 i ∧ Hid (OpMid w h D N first w.heap.size (w.heap.size + 1) i R wr))
  case atStart =>
    refine ⟨0, .slice none 0 0, rfl, Nat.zero_le _, rfl, ?_⟩
    have hm0 := MapIs.made skey w
    refine ⟨?_, ⟨[], rfl, World.ownsRow_nil _ _ _ _, fun j S hS => by simp [opRegs] at hS⟩, hm0.alloc _, HD.out.chgNo (by (repeat (first | (with_reducible exact Chg.refl _ _) | (with_reducible assumption) | (with_reducible refine Chg.drewN ?_ _) | (with_reducible refine Chg.drew ?_) | (with_reducible refine Chg.alloc ?_ _) | (with_reducible refine Chg.setCell ?_ (by first | (left; simp [DevH.foot]; done) | (right; simp; done) | (right; simp; omega)) _)))), by (repeat (first | (with_reducible exact Chg.refl _ _) | (with_reducible assumption) | (with_reducible refine Chg.drewN ?_ _) | (with_reducible refine Chg.drew ?_) | (with_reducible refine Chg.alloc ?_ _) | (with_reducible refine Chg.setCell ?_ (by first | (left; simp [DevH.foot]; done) | (right; simp; done) | (right; simp; omega)) _))), HMF.out⟩
    have := Blk.new (w.alloc (.map #[] 0)) tLog (openBox h D.losses first (.slice none 0 0) (opTopT D first 0) w.heap.size)
    rw [World.size_alloc] at this
    rw [HLOE.out]
    exact this
  case round =>
    obtain ⟨i, R, rfl, hi, rfl, H⟩ := hrel
    by_cases hlt : i < n
    · obtain ⟨ses, hses, hrow, hreg⟩ := H.out.regs
      obtain ⟨Ar, cr, rfl, hncr, _⟩ := own_slice hrow
      have d3 := H.out.box.cell 3
      have f3 := H.out.box.frozen 3
      have hll := H.out.box.lt
      simp [openBox] at d3
      have HLD := fun W => Lib.hid (fun hc : Chg No wr W => rload_calls (H.out.dev.chgNo hc) (w.heap.size + 1) D.losses first i (opTopT D first i) w.heap.size (.slice Ar i cr) (H.out.box.chg hc (fun h => h)) HOFF.out (by have := HFIT.out; omega) (opTopT_lt _ _ _))
      have HTS : Hid (opTopT D first (i + 1) = ldTop (D.rpg first i) (opTopT D first i) 4) := opTopT_succ _ _ _
      have HRS : Hid (opRegs D first (i + 1) = opRegs D first i ++ [ldS (D.rpg first i)]) := opRegs_succ _ _ _
      obtain ⟨S, hS⟩ : ∃ S, S = ldS (D.rpg first i) := ⟨_, rfl⟩
      rw [← hS] at HRS
      simp only [← hS] at HLD
      rw [← HTS.out] at HLD
      have hwz := H.out.chg.size
      have HFB : ∀ W, Hid (Chg (fun k => h.foot k ∨ k = w.heap.size + 1) wr W → ∀ k cs T fz, wr.heap[k]? = some (.cells cs T fz) → T = tSeal ∨ T = tItem → ¬ (h.foot k ∨ k = w.heap.size + 1)) := fun W => fun hc k cs T fz hg hT => by
        rintro (hf | he)
        · rcases hT with rfl | rfl <;> exact H.out.dev.not_foot hg (by decide) (by decide) hf
        · have hb := H.out.box
          rw [he] at hg
          unfold Blk at hb
          rw [hg] at hb
          injection hb with hb
          injection hb with _ e
          rcases hT with rfl | rfl <;> exact absurd e (by decide)
      have h63 : i + 1 ≤ maxLen := by simp only [maxLen]; omega
      have hby : (i + 1) * 32 ≤ 140737488355328 := by omega
      clear hS hses hrow hreg hmm
      go_wp2_with fail
      go_region_law ((first
        | (refine step_call2 _ rfl 69 (.tmp 60) (.tmp 61) _ rfl _ _ rfl rfl (callf_load _ _ _) ((HLD _).out (by (repeat (first | (with_reducible exact Chg.refl _ _) | (with_reducible assumption) | (with_reducible refine Chg.drewN ?_ _) | (with_reducible refine Chg.drew ?_) | (with_reducible refine Chg.alloc ?_ _) | (with_reducible refine Chg.setCell ?_ (by first | (left; simp [DevH.foot]; done) | (right; simp; done) | (right; simp; omega)) _))))) ?_
           rintro e w1 ⟨v, rfl, hov, hd1, hb1, hc1⟩
           obtain ⟨Av, cv, rfl, hncv, hrv⟩ := own_slice hov
           have HC1 : Hid (Chg (fun k => h.foot k ∨ k = w.heap.size + 1) wr w1) := (by (repeat (first | (with_reducible exact Chg.refl _ _) | (with_reducible assumption) | (with_reducible refine Chg.drewN ?_ _) | (with_reducible refine Chg.drew ?_) | (with_reducible refine Chg.alloc ?_ _) | (with_reducible refine Chg.setCell ?_ (by first | (left; simp [DevH.foot]; done) | (right; simp; done) | (right; simp; omega)) _))) : Chg No wr _).mono (fun _ _ h => h.elim) |>.trans hc1
           have HB1 := Lib.hid hb1
           have HD1 := Lib.hid hd1
           have HOV := Lib.hid hov
           have d3' := hb1.cell 3
           have f3' := hb1.frozen 3
           have hll' := hb1.lt
           simp [openBox] at d3'
           clear hov hd1 hb1 hc1 hrv
           refine ⟨_, rfl, ?_⟩)
        | (obtain ⟨ses, hses, hrow, hreg⟩ := H.out.rows HC1.out ((HFB _).out HC1.out)
           refine step_app _ rfl (.tmp 59) (.tmp 63) tSeals rfl tSeal Tryz.underlying129 ti_seal rfl (by omega) w.heap.size (.slice Ar i cr) i (secs ses) rfl (by first | exact hrow.alloc _ | exact (own_chg hrow (by (repeat (first | (with_reducible exact Chg.refl _ _) | (with_reducible assumption) | (with_reducible refine Chg.drewN ?_ _) | (with_reducible refine Chg.drew ?_) | (with_reducible refine Chg.alloc ?_ _) | (with_reducible refine Chg.setCell ?_ (by first | (left; simp [DevH.foot]; done) | (right; simp; done) | (right; simp; omega)) _))) : Chg No w1 _) (fun _ _ h => h))) tSeal _ 1 1 [.int .u64 S.num, .slice Av S.l.length cv] rfl (rd_two _ tSeal _ _) (by simp [Value.oneCell']) h63 hby (by have := HC1.out.size; simp; omega) ?_
           intro v9 w9 ho9 hg9 hb9
           obtain ⟨A9, c9, rfl, hnc9, hrd9⟩ := own_slice ho9
           have HO9 : Hid (w9.ownsRow w.heap.size tSeal 2 (.slice A9 (i + 1) c9) (i + 1) (secs ses ++ [.int .u64 S.num, .slice Av S.l.length cv])) := ho9
           have HS9 : Hid (ses.length = i ∧ w1.ownsRow w.heap.size tSeal 2 (.slice Ar i cr) i (secs ses) ∧ ∀ (j : Nat) (S : Sealed), (opRegs D first i)[j]? = some S → ∃ v, ses[j]? = some (S.num, v) ∧ w1.ownsRow w.heap.size tItem 5 v S.l.length (its S.l)) := ⟨hses, hrow, hreg⟩
           have HG9 : Hid (Chg (fun k => Value.ownBlock (.slice Ar i cr) = some k) w1 w9) := Chg.grown (by (repeat (first | (with_reducible exact Chg.refl _ _) | (with_reducible assumption) | (with_reducible refine Chg.drewN ?_ _) | (with_reducible refine Chg.drew ?_) | (with_reducible refine Chg.alloc ?_ _) | (with_reducible refine Chg.setCell ?_ (by first | (left; simp [DevH.foot]; done) | (right; simp; done) | (right; simp; omega)) _)))) hg9 (fun k' hk' => .inl hk')
           have hb9' := HB1.out.chg HG9.out (fun e => own_other hrow HB1.out (by decide) e)
           have HB9 := Lib.hid hb9'
           have d39 := hb9'.cell 3
           have f39 := hb9'.frozen 3
           simp [openBox] at d39
           clear ho9 hg9 hb9 hrd9 hb9' hses hrow hreg)))
      all_goals
        go_wp2
        go_roundg (n - (i + 1))
        case measure => omega
        case rel => exact ⟨i + 1, _, rfl, by omega, by go_num, OpMid.next H.out HRS.out (Nat.le_refl _) H.out.map.lt (Nat.le_succ _) HC1.out HD1.out HB1.out HOV.out (Nat.le_refl _) HS9.out HO9.out HG9.out⟩
    · obtain rfl : i = n := by omega
      have hl1 := H.out.log (Nat.le_refl _) (Nat.le_succ _) hn (by omega) (by have := HFIT.out; omega)
      have hbm := byNum_lt (opRegs D first i)
      have HBN := Lib.hid (byNumber_calls hl1 (by show (opRegs D first i).length < 20; rw [opRegs_len]; exact hm))
      have HL1 := Lib.hid hl1
      have HCH := Lib.hid H.out.chg
      have HDV := Lib.hid H.out.dev
      have hbl := byNum_len (opRegs D first i)
      rw [opRegs_len] at hbm hbl
      obtain ⟨bn, hbn⟩ : ∃ bn, bn = byNum (Lg.bare D first i).regs := ⟨_, rfl⟩
      have hbm' : ∀ j ∈ bn, j < i := fun j hj => hbm j (by rw [hbn] at hj; exact hj)
      have hbl' : bn.length ≤ i := by rw [hbn]; exact hbl
      rw [← hbn] at HBN
      have HBE := Lib.hid hbn
      have HBM := Lib.hid hbm'
      have HOPK : Hid (Lg.opened D first i = { Lg.bare D first i with keys := bn.foldl (fun ks j => layK j ks (rl (Lg.bare D first i).regs j)) [] }) := by show _ = _; rw [hbn]; rfl
      obtain ⟨t1, ht1⟩ : ∃ t1 : LgH, t1 = ⟨w.heap.size + 1, w.heap.size, R, .slice none 0 0, fun k => w.heap.size ≤ k ∧ k < wr.heap.size⟩ := ⟨_, rfl⟩
      have HTL : Hid (t1.L = w.heap.size + 1 ∧ t1.M = w.heap.size ∧ t1.R = R ∧ ∀ k, t1.own k → w.heap.size ≤ k) := by rw [ht1]; exact ⟨rfl, rfl, rfl, fun k hk => hk.1⟩
      rw [← ht1] at HL1
      have hrow := HL1.out.row
      obtain ⟨r, ro, rc, hR, hrg, _⟩ := hrow
      obtain ⟨rfl, _, _, _⟩ := HL1.out.rowAt hR
      have HRR := Lib.hid hR
      obtain ⟨G1, hG1⟩ : ∃ G1 : Lg, G1 = Lg.bare D first i := ⟨_, rfl⟩
      rw [← hG1] at HL1 HOPK HBE
      have HGE : Hid (G1.regs.length = i ∧ G1.keys = []) := by rw [hG1]; exact ⟨opRegs_len _ _ _, rfl⟩
      clear hl1 hbm hbl hbn hbm' ht1 hR hG1 hlt hrg
      go_wp2_with fail
      refine HBN.out.mono ?_
      rintro e w1 ⟨vb, rfl, hob, hc1⟩
      obtain ⟨Ab, cb, rfl, hncb, hrb⟩ := own_slice hob
      have HRB : Hid (Rd w1 tInt1 Ab bn.length (ints bn)) := by show Rd _ _ _ _ _; simpa using hrb
      have HC1 := Lib.hid hc1
      obtain ⟨nb, hnb⟩ : ∃ nb, nb = bn.length := ⟨_, rfl⟩
      rw [← hnb] at HRB hbl' ⊢
      have HNB := Lib.hid hnb
      clear hob hc1 hrb hnb HBN
      go_wp2
      go_loopg [71] nb (fun gk vi wz => ∃ j : Nat, gk = nb - j ∧ j ≤ nb ∧ vi = .int .i64 j ∧
        Hid (LgAt wz h t1 { G1 with keys := (bn.take j).foldl (fun ks j => layK j ks (rl G1.regs j)) [] } ∧ DevN N wz h D ∧ Rd wz tInt1 Ab nb (ints bn) ∧ Chg h.foot w wz))
      case atStart =>
        refine ⟨0, rfl, Nat.zero_le _, rfl, ?_, HDV.out.chgNo HC1.out, HRB.out, HCH.out.then HC1.out (fun _ _ h => h.elim)⟩
        have := HL1.out.chgNo HC1.out
        have e : ({ G1 with keys := (bn.take 0).foldl (fun ks j => layK j ks (rl G1.regs j)) [] } : Lg) = G1 := by
          simp only [List.take_zero, List.foldl_nil, ← HGE.out.2]
        rw [e]; exact this
      case round =>
        obtain ⟨j, rfl, hj, rfl, H2⟩ := hrel
        by_cases hjl : j < nb
        · obtain ⟨q, hq⟩ : ∃ q, bn[j]? = some q := ⟨_, List.getElem?_eq_getElem (by rw [← HNB.out]; exact hjl)⟩
          have hqi := HBM.out q (List.mem_of_getElem? hq)
          obtain ⟨S, hS⟩ : ∃ S, G1.regs[q]? = some S := ⟨_, List.getElem?_eq_getElem (by rw [HGE.out.1]; exact hqi)⟩
          have hrl : rl G1.regs q = S.l := by unfold rl; rw [List.getD_eq_getElem?_getD, hS]; rfl
          obtain ⟨ks, hks⟩ : ∃ ks, ks = (bn.take j).foldl (fun ks j => layK j ks (rl G1.regs j)) [] := ⟨_, rfl⟩
          rw [← hks] at H2
          have HFS : Hid ((bn.take (j + 1)).foldl (fun ks j => layK j ks (rl G1.regs j)) [] = layK q ks S.l) := by
            show _ = _
            rw [List.take_add_one, hq, Option.toList, List.foldl_append, ← hks, List.foldl_cons, List.foldl_nil, hrl]
          obtain ⟨vs, e0, e1', hsl⟩ := H2.out.1.rowCell HRR.out q S hS
          obtain ⟨Ai, ci, rfl, hnci, hrdi, _⟩ := hsl
          have hmax := (HL1.out.ok.small S (List.mem_of_getElem? hS)).1
          have d3 := H2.out.1.box.cell 3
          simp at d3
          rw [HRR.out, HTL.out.1] at d3
          have hlen3 : (Lg.bare D first i).regs.length = i := opRegs_len _ _ _
          rw [hlen3] at d3
          obtain ⟨gb, ob, eb, hgb, hcb⟩ := (show Rd wr tInt1 Ab (nb * 1) (ints bn) by rw [Nat.mul_one]; exact H2.out.2.2.1).at_ (j := j) (by omega)
          subst eb
          have cb0 := hcb j _ (ints_get hq)
          obtain ⟨l, hll⟩ : ∃ l, l = S.l := ⟨_, rfl⟩
          rw [← hll] at e1' hnci hrdi hmax HFS
          have HLS : Hid (∀ (k : Nat) (x : Item), l[k]? = some x → S.l[k]? = some x) := fun k x hx => by rw [← hll]; exact hx
          obtain ⟨nl, hnl⟩ : ∃ nl, nl = l.length := ⟨_, rfl⟩
          rw [← hnl] at e1' hnci hmax
          have HNL := Lib.hid hnl
          have hqii : (q : Int) < (i : Int) := by omega
          have hji : (j : Int) < (nb : Int) := by omega
          have HSS := Lib.hid hS
          have hlay := layT_all q ks l
          rw [← hnl] at hlay
          have HLAY := Lib.hid hlay
          obtain ⟨wo, rfl⟩ : ∃ wo : World, wo = wr := ⟨_, rfl⟩
          have HRI : Hid (Rd wo tItem Ai (l.length * 5) (its l)) := hrdi
          clear hq hqi hS hrl hks e0 hrdi hlen3 hcb hll hnl hlay
          go_wp2
          go_loopg [84] nl (fun gk vi wz => ∃ k : Nat, gk = nl - k ∧ k ≤ nl ∧ vi = .int .i64 k ∧
            Hid (LgAt wz h t1 { G1 with keys := layT q ks l k } ∧ DevN N wz h D ∧ Rd wz tInt1 (some ⟨gb, ob, none⟩) nb (ints bn) ∧ Chg h.foot w wz ∧ Rd wz tItem Ai (l.length * 5) (its l)))
          case atStart => exact ⟨0, rfl, Nat.zero_le _, rfl, H2.out.1, H2.out.2.1, H2.out.2.2.1, H2.out.2.2.2, HRI.out⟩
          case round =>
            obtain ⟨k, rfl, hk, rfl, K⟩ := hrel
            by_cases hkl : k < nl
            · obtain ⟨x, hx⟩ : ∃ x, l[k]? = some x := ⟨_, List.getElem?_eq_getElem (by rw [← HNL.out]; exact hkl)⟩
              have hsucc := layT_succ q ks hx
              obtain ⟨kk, hkk⟩ : ∃ kk, layT q ks l k = kk := ⟨_, rfl⟩
              rw [hkk] at K hsucc
              obtain ⟨g, off, c', he', hg, c0, c1, c2, c3, c4⟩ := SlAt.item (w := wr) (t := ⟨0, 0, .slice none 0 0, .slice none 0 0, fun _ => True⟩) (v := .slice Ai l.length ci) ⟨Ai, ci, rfl, by rw [← HNL.out]; exact hnci, K.out.2.2.2.2, fun _ _ _ _ => ⟨trivial, by simp [Value.ownBlock]⟩⟩ hx
              obtain ⟨ea, _, _⟩ : Ai = some ⟨g, off, none⟩ ∧ True ∧ True := by injection he' with e1 e2 e3; exact ⟨e1, trivial, trivial⟩
              subst ea
              have hki : (k : Int) < (nl : Int) := by omega
              have HSUC := Lib.hid hsucc
              have HX := Lib.hid hx
              clear hsucc hkk hx he'
              go_wp2_with fail
              refine wp_forget (fun W => Chg No wr W ∧ Blk W wr.heap.size tItem (itc x).toArray) ⟨by (repeat (first | (with_reducible exact Chg.refl _ _) | (with_reducible assumption) | (with_reducible refine Chg.drewN ?_ _) | (with_reducible refine Chg.drew ?_) | (with_reducible refine Chg.alloc ?_ _) | (with_reducible refine Chg.setCell ?_ (by first | (left; simp [DevH.foot]; done) | (right; simp; done) | (right; simp; omega)) _))), Blk.new _ _ _⟩ (fun W hW => ?_)
              obtain ⟨hcW, hbW⟩ := hW
              obtain ⟨ga, hga⟩ : ∃ ga, wr.heap.size = ga := ⟨_, rfl⟩
              rw [hga] at hbW ⊢
              have hlW := K.out.1.chgNo (hcW.drew)
              have d7 := hlW.box.cell 7
              simp at d7
              rw [HTL.out.1] at d7
              have a0 := hbW.cell 0
              simp [itc] at a0
              obtain ⟨o, hrun, hmap⟩ := hlW.map.update (P := Tryz.prog) (keyLaw_string (Tryz.underlying9)) Tryz.underlying128 x.key (plv ⟨false, q, k⟩)
              rw [aset_amap] at hmap
              simp only [plv] at hrun
              have hok : ({ G1 with keys := aset kk x.key ⟨false, q, k⟩ } : Lg).Ok := hlW.ok.lay (q := q) (k := k) (S := S) (x := x) HSS.out (HLS.out k x HX.out)
              have hcM : Chg (fun k => k = t1.M) W.drew (setBlock W.drew t1.M o) := chg_setBlock _ _ _
              have HN1 := Lib.hid (And.intro (hlW.rekey hcM hmap hok) hcM)
              have HLW := Lib.hid hlW
              have HCW := Lib.hid hcW
              clear hlW hcW hbW hga hmap hok hcM c0 c1 c2 c3 c4
              go_region
              all_goals
                go_wp2
                go_roundg (nl - (k + 1))
                case measure => omega
                case rel =>
                  refine ⟨k + 1, rfl, by omega, by go_num, ?_⟩
                  rw [HSUC.out]
                  refine ⟨HN1.out.1, dev_map ((K.out.2.1.chgNo HCW.out).chgNo ((Chg.refl _ _).drew)) HLW.out.map HLW.out.far HN1.out.2, ?_, ?_, ?_⟩
                  · exact (K.out.2.2.1.chg (HCW.out.drew) (fun _ _ _ _ h => h)).chg HN1.out.2 (fun g cur fz hg e => HLW.out.map.ne_blk hg e.symm)
                  · exact (K.out.2.2.2.1.then (HCW.out.drew) (fun _ _ h => h.elim)).then HN1.out.2 (fun p hp e => by have := HTL.out.2.1; omega)
                  · exact (K.out.2.2.2.2.chg (HCW.out.drew) (fun _ _ _ _ h => h)).chg HN1.out.2 (fun g cur fz hg e => HLW.out.map.ne_blk hg e.symm)
            · obtain rfl : k = nl := by omega
              rw [HLAY.out, ← HFS.out] at K
              clear hkl
              go_wp2
              go_roundg (nb - (j + 1))
              case measure => omega
              case rel => exact ⟨j + 1, rfl, by omega, by go_num, K.out.1, K.out.2.1, K.out.2.2.1, K.out.2.2.2.1⟩
        · obtain rfl : j = nb := by omega
          rw [List.take_of_length_le (by rw [← HNB.out]; exact Nat.le_refl _), ← HOPK.out] at H2
          clear hjl
          go_wp2
          go_ret2
          exact ⟨t1, by rw [HTL.out.1]; rfl, H2.out.1, H2.out.2.1, HTL.out.2.2.2, H2.out.2.2.2⟩
end
end Go.Proofs.YtplpbbdakihnfaaGreat
end

section
namespace Go.Proofs.YtplpbbdakihnfaaGreat
open Go.RowKit
def ldPage (p : List UInt8) (i n : Nat) : Option (List UInt8) :=
  if p.take 2 = [73, 77] ∧ num (cut p 4 8) = i ∧ num (cut p 2 4) ≤ 376 ∧ ¬ (num (cut p 2 4) < 376 ∧ i + 1 < n) then some (cut p 8 (8 + num (cut p 2 4))) else none
def Dev.ldB (D : Dev) (first : Int) (n : Nat) : Nat → Except Int (List UInt8)
  | 0 => .ok []
  | k + 1 => match D.ldB first n k with
    | .error e => .error e
    | .ok b => if D.readE (first + k) = 0 then (match ldPage (D.read (first + k)) k n with
      | none => .error 3
      | some c => .ok (b ++ c)) else .error 3
structure Dev.Ok (D : Dev) : Prop where
  on : D.off = false
  free : D.armed = 0
theorem Dev.Ok.spent_ {D : Dev} (h : D.Ok) : D.spent = true ∧ D.spend = D := by
  unfold Dev.spent Dev.spend
  rw [h.on, h.free]
  exact ⟨rfl, by simp⟩
theorem Dev.Ok.write_ {D : Dev} (h : D.Ok) {k : Nat} (hk : k < D.n) {b : List UInt8} (hb : b.length ≤ 384) : D.writeE k b.length = 0 ∧ D.write k b = D.put k (.full (Dev.pad b)) := by
  obtain ⟨h1, h2⟩ := h.spent_
  have hh : D.has (k : Int) = true := by simp [Dev.has]; omega
  unfold Dev.writeE Dev.write Dev.changeE Dev.change
  rw [hh, h1, h2, decide_eq_true hb]
  exact ⟨rfl, by simp⟩
theorem Dev.Ok.put_ {D : Dev} (h : D.Ok) (k : Nat) (p : Pg) : (D.put k p).Ok := ⟨h.on, h.free⟩
theorem Dev.put_page (D : Dev) (k : Nat) (p : Pg) (i : Nat) : (D.put k p).page i = if i = k then p else D.page i := by
  unfold Dev.put Dev.page
  simp only
  by_cases hi : i = k
  · rw [if_pos hi, if_pos hi]; rfl
  · rw [if_neg hi, if_neg hi]
theorem Dev.settled_page (D : Dev) (i : Nat) : D.settled.page i = D.page i := rfl
theorem Dev.Ok.flush_ {D : Dev} (h : D.Ok) : D.flush = D.settled ∧ D.settled.Ok ∧ D.changeE = 0 := by
  obtain ⟨h1, h2⟩ := h.spent_
  unfold Dev.flush Dev.changeE
  rw [h1, h2]
  exact ⟨by simp, ⟨h.on, h.free⟩, by simp⟩
theorem pgOf_ck_le (b : List UInt8) (j : Nat) : (pgOf (ck b j) j).length ≤ 384 := by rw [pgOf_len, ck_len]; omega
theorem Dev.Ok.puts_ {D : Dev} (h : D.Ok) (f : Nat) (b : List UInt8) : ∀ k, f + k ≤ D.n → (D.puts f b k).Ok ∧ (D.puts f b k).n = D.n ∧
    (∀ j, j < k → D.putsE f b j = 0) ∧ (∀ i, (D.puts f b k).page i = if f ≤ i ∧ i < f + k then .full (Dev.pad (pgOf (ck b (i - f)) (i - f))) else D.page i) := by
  intro k
  induction k with
  | zero => intro _; exact ⟨h, rfl, fun j hj => absurd hj (by omega), fun i => by rw [if_neg (by omega)]; rfl⟩
  | succ k ih =>
    intro hk
    obtain ⟨i1, i2, i3, i4⟩ := ih (by omega)
    have hw := i1.write_ (k := f + k) (by omega) (pgOf_ck_le b k)
    have hE : D.putsE f b k = 0 := by
      rw [Dev.putsE_eq]
      exact hw.1
    have hW : D.puts f b (k + 1) = (D.puts f b k).put (f + k) (.full (Dev.pad (pgOf (ck b k) k))) := by
      rw [Dev.puts_succ]
      exact hw.2
    rw [hW]
    refine ⟨i1.put_ _ _, i2, fun j hj => ?_, fun i => ?_⟩
    · by_cases hjk : j = k
      · rw [hjk]; exact hE
      · exact i3 j (by omega)
    · rw [Dev.put_page, i4]
      by_cases hi : i = f + k
      · subst hi
        rw [if_pos rfl, if_pos (by omega), Nat.add_sub_cancel_left]
      · rw [if_neg hi]
        by_cases h2 : f ≤ i ∧ i < f + k
        · rw [if_pos h2, if_pos (by omega)]
        · rw [if_neg h2, if_neg (by omega)]
theorem ckN_fit {l : List Item} {pages : Nat} : ckN (records (l.take (fitI (376 * (pages : Int)) 0 l))).length ≤ pages := by
  rw [isum_records]
  by_cases h0 : 0 < fitI (376 * (pages : Int)) 0 l
  · have := fitI_room (376 * (pages : Int)) l 0 h0
    unfold ckN; omega
  · have : fitI (376 * (pages : Int)) 0 l = 0 := by omega
    rw [this]; simp [isum, ckN]
theorem may_nat {D : Dev} {first pages : Int} (h : D.may first pages = true) : ∃ f p : Nat, first = f ∧ pages = p ∧ f + p ≤ D.n := by
  simp only [Dev.may, Bool.and_eq_true, decide_eq_true_eq] at h
  obtain ⟨⟨⟨h1, h2⟩, h3⟩, h4⟩ := h
  exact ⟨first.toNat, pages.toNat, by omega, by omega, by omega⟩
theorem DumpR.good {D D' : Dev} {first pages : Int} {l : List Item} {p m : Nat} {er : Int} (h : DumpR D first pages l p m er D') (hD : D.Ok) (hm : D.may first pages = true) (hg : goods l = true) :
    er = 0 ∧ m = fitI (376 * pages) 0 l ∧ p = ckN (records (l.take m)).length ∧ p ≤ pages ∧ D'.Ok ∧ D'.n = D.n ∧
      ∀ i, D'.page i = if first ≤ i ∧ (i : Int) < first + p then .full (Dev.pad (pgOf (ck (records (l.take m)) (i - first.toNat)) (i - first.toNat))) else D.page i := by
  obtain ⟨f, pg, rfl, rfl, hfp⟩ := may_nat hm
  have hfit := ckN_fit (l := l) (pages := pg)
  obtain ⟨b, hb⟩ : ∃ b, b = records (l.take (fitI (376 * (pg : Int)) 0 l)) := ⟨_, rfl⟩
  rw [← hb] at hfit
  obtain ⟨i1, i2, i3, i4⟩ := hD.puts_ f b (ckN b.length) (by omega)
  obtain ⟨f1, f2, f3⟩ := i1.flush_
  cases h with
  | arg h => rw [hm, hg] at h; cases h
  | cut k _ hk _ he => rw [← hb] at hk he; exact absurd (i3 k hk) he
  | noflush _ _ he => rw [← hb] at he; exact absurd f3 he
  | ok _ _ _ =>
    rw [← hb]
    refine ⟨rfl, rfl, rfl, by omega, ?_, ?_, fun i => ?_⟩
    · rw [f1]; exact f2
    · rw [f1]; exact i2
    · rw [f1, Dev.settled_page, i4]
      have e : (f ≤ i ∧ i < f + ckN b.length) ↔ ((f : Int) ≤ i ∧ (i : Int) < f + (ckN b.length : Int)) := by omega
      simp only [e, Int.toNat_natCast]
theorem DumpR.bad {D D' : Dev} {first pages : Int} {l : List Item} {p m : Nat} {er : Int} (h : DumpR D first pages l p m er D') (hm : (D.may first pages && goods l) = false) : p = 0 ∧ m = 0 ∧ er = 1 ∧ D' = D := by
  cases h with
  | arg h => exact ⟨rfl, rfl, rfl, rfl⟩
  | cut k h _ _ _ => rw [hm] at h; cases h
  | noflush h _ _ => rw [hm] at h; cases h
  | ok h _ _ => rw [hm] at h; cases h
end Go.Proofs.YtplpbbdakihnfaaGreat
end

section
namespace Go.Proofs.YtplpbbdakihnfaaGreat
open Go.RowKit
def Dev.still (D : Dev) : Prop := ∀ i, D.wt i = none
end Go.Proofs.YtplpbbdakihnfaaGreat
end

section
namespace Go.Proofs.YtplpbbdakihnfaaGreat
open Go.RowKit
theorem cut_seg (a b c : List UInt8) : cut (a ++ (b ++ c)) a.length (a.length + b.length) = b := by
  unfold cut
  rw [List.drop_left, Nat.add_sub_cancel_left, List.take_left]
theorem rgHead_len (k n m : Nat) : (rgHead k n m).length = 16 := by simp [rgHead, le_length]
theorem rgPart_le (b : List UInt8) (k : Nat) : (rgPart b k).length ≤ 368 := by unfold rgPart; rw [List.length_take]; omega
theorem rgPg_le (b : List UInt8) (n k : Nat) : (rgPg b n k).length ≤ 384 := by unfold rgPg; rw [List.length_append, rgHead_len]; have := rgPart_le b k; omega
theorem pad_parts (b : List UInt8) (n k : Nat) : ∃ z, Dev.pad (rgPg b n k) = [82, 71, UInt8.ofNat k, 0] ++ (le 4 (rgPart b k).length ++ (le 8 n ++ (rgPart b k ++ z))) := by
  refine ⟨List.replicate (384 - (rgPg b n k).length) 0, ?_⟩
  unfold Dev.pad
  simp only [rgPg, rgHead, List.append_assoc]
theorem pad_form (b : List UInt8) (n k : Nat) (hk : k < 256) : rgForm (Dev.pad (rgPg b n k)) k = true := by
  obtain ⟨z, e⟩ := pad_parts b n k
  rw [e]
  have hm := rgPart_le b k
  have h1 : cut ([82, 71, UInt8.ofNat k, 0] ++ (le 4 (rgPart b k).length ++ (le 8 n ++ (rgPart b k ++ z)))) 4 8 = le 4 (rgPart b k).length := by
    have := cut_seg [82, 71, UInt8.ofNat k, 0] (le 4 (rgPart b k).length) (le 8 n ++ (rgPart b k ++ z))
    rw [le_length] at this
    exact this
  unfold rgForm
  rw [h1, num_le_of_lt (by omega)]
  have h2 : (UInt8.ofNat k).toNat = k := by rw [UInt8.toNat_ofNat']; omega
  simp [h2, hm]
theorem pad_num (b : List UInt8) (n k : Nat) (hk : k < 256) (hn : n < 18446744073709551616) : rgN (Dev.pad (rgPg b n k)) k = n := by
  unfold rgN
  rw [pad_form b n k hk, if_pos rfl]
  obtain ⟨z, e⟩ := pad_parts b n k
  rw [e]
  have h1 : cut ([82, 71, UInt8.ofNat k, 0] ++ (le 4 (rgPart b k).length ++ (le 8 n ++ (rgPart b k ++ z)))) 8 16 = le 8 n := by
    have := cut_seg ([82, 71, UInt8.ofNat k, 0] ++ le 4 (rgPart b k).length) (le 8 n) (rgPart b k ++ z)
    rw [List.length_append, le_length, le_length, List.append_assoc] at this
    exact this
  rw [h1, num_le_of_lt (by simpa using hn)]
theorem pad_part (b : List UInt8) (n k : Nat) (hk : k < 256) : rgB (Dev.pad (rgPg b n k)) k = rgPart b k := by
  unfold rgB
  rw [pad_form b n k hk, if_pos rfl]
  obtain ⟨z, e⟩ := pad_parts b n k
  rw [e]
  have hm := rgPart_le b k
  have h1 : cut ([82, 71, UInt8.ofNat k, 0] ++ (le 4 (rgPart b k).length ++ (le 8 n ++ (rgPart b k ++ z)))) 4 8 = le 4 (rgPart b k).length := by
    have := cut_seg [82, 71, UInt8.ofNat k, 0] (le 4 (rgPart b k).length) (le 8 n ++ (rgPart b k ++ z))
    rw [le_length] at this
    exact this
  rw [h1, num_le_of_lt (by omega)]
  have := cut_seg ([82, 71, UInt8.ofNat k, 0] ++ (le 4 (rgPart b k).length ++ le 8 n)) (rgPart b k) z
  simp only [List.length_append, le_length, List.append_assoc] at this
  exact this
theorem parts_all (b : List UInt8) (hb : b.length ≤ 1472) : rgPart b 0 ++ rgPart b 1 ++ rgPart b 2 ++ rgPart b 3 = b := by
  unfold rgPart
  have e : ∀ i, (b.drop (i * 368)).take 368 ++ b.drop ((i + 1) * 368) = b.drop (i * 368) := by
    intro i
    have h := List.take_append_drop 368 (b.drop (i * 368))
    rw [List.drop_drop, show i * 368 + 368 = (i + 1) * 368 by rw [Nat.add_mul]] at h
    exact h
  have h4 : b.drop (4 * 368) = [] := List.drop_eq_nil_of_le (by omega)
  have h3 := e 3
  rw [show 3 + 1 = 4 from rfl, h4, List.append_nil] at h3
  rw [List.append_assoc, List.append_assoc, h3, e 2, e 1]
  simp
def SealedAt (P : Nat → Pg) (n : Nat) (l : List Item) : Prop := ∀ k, k < 4 → P k = .full (Dev.pad (rgPg (records l) n k))
theorem load_back {P : Nat → Pg} {n : Nat} {l : List Item} (h : SealedAt P n l) (hg : goods l = true) (hs : isum l ≤ 1472) (h0 : 0 < n) (hn : n < 18446744073709551616) : ldS P = ⟨n, l⟩ := by
  have hrn : ∀ k, k < 4 → (P k).rn k = n := fun k hk => by rw [h k hk]; exact pad_num _ _ _ (by omega) hn
  have hrb : ∀ k, k < 4 → (P k).rb k = rgPart (records l) k := fun k hk => by rw [h k hk]; exact pad_part _ _ _ (by omega)
  have hB : ldB P 4 = records l := by
    have e : ldB P 4 = (P 0).rb 0 ++ ((P 1).rb 1 ++ ((P 2).rb 2 ++ ((P 3).rb 3 ++ []))) := rfl
    rw [e, hrb 0 (by omega), hrb 1 (by omega), hrb 2 (by omega), hrb 3 (by omega), List.append_nil]
    have := parts_all (records l) (by rw [isum_records]; exact hs)
    simpa [List.append_assoc] using this
  have hN : ldNums P 4 = [n, n, n, n] := by
    have e : ldNums P 4 = [(P 0).rn 0, (P 1).rn 1, (P 2).rn 2, (P 3).rn 3] := rfl
    rw [e, hrn 0 (by omega), hrn 1 (by omega), hrn 2 (by omega), hrn 3 (by omega)]
  unfold ldS
  have hl := listOf_records l 0 hg
  simp only [List.replicate_zero, List.append_nil] at hl
  rw [hB, hl, hN, hrn 0 (by omega)]
  simp only
  rw [if_pos ⟨by simp [listMin, listMax], by omega⟩]
theorem load_blank {P : Nat → Pg} (h : ∀ k, k < 4 → P k = .blank) : ldS P = .no ∧ ∀ m, ldTop P m 4 = m := by
  constructor
  · unfold ldS
    have hB : ldB P 4 = [] := by
      have e : ldB P 4 = (P 0).rb 0 ++ ((P 1).rb 1 ++ ((P 2).rb 2 ++ ((P 3).rb 3 ++ []))) := rfl
      rw [e, h 0 (by omega), h 1 (by omega), h 2 (by omega), h 3 (by omega)]; rfl
    have hN : (P 0).rn 0 = 0 := by rw [h 0 (by omega)]; rfl
    rw [hB, hN]
    cases listOf ([] : List UInt8) with
    | none => rfl
    | some l => simp only; rw [if_neg (fun hh => hh.2 rfl)]
  · intro m
    have e : ldTop P m 4 = max (max (max (max m (P 0).rs) (P 1).rs) (P 2).rs) (P 3).rs := rfl
    rw [e, h 0 (by omega), h 1 (by omega), h 2 (by omega), h 3 (by omega)]
    simp [Pg.rs]
structure Dev.On (D : Dev) : Prop where
  off : D.off = false
  armed : D.armed = 0
theorem Dev.On.spend {D : Dev} (h : D.On) : D.spent = true ∧ D.spend = D := by
  unfold Dev.spent Dev.spend
  rw [h.off, h.armed]
  simp
theorem Dev.On.changeE {D : Dev} (h : D.On) : D.changeE = 0 := by unfold Dev.changeE; rw [h.spend.1]; rfl
theorem Dev.On.write {D : Dev} (h : D.On) {k : Nat} (hk : k < D.n) {b : List UInt8} (hb : b.length ≤ 384) : D.writeE k b.length = 0 ∧ (D.write k b).On ∧ (D.write k b).n = D.n ∧ (D.write k b).losses = D.losses ∧ ∀ i, (D.write k b).page i = if i = k then .full (Dev.pad b) else D.page i := by
  have hh : D.has (k : Int) = true := by simp [Dev.has]; omega
  unfold Dev.writeE Dev.write Dev.change
  rw [hh, decide_eq_true hb, h.spend.1, h.changeE, h.spend.2]
  refine ⟨rfl, ⟨h.off, h.armed⟩, rfl, rfl, fun i => ?_⟩
  unfold Dev.page Dev.put
  simp only [Bool.and_self, if_true, Int.toNat_natCast]
  by_cases hi : i = k
  · rw [if_pos hi, if_pos hi]; rfl
  · rw [if_neg hi, if_neg hi]
theorem Dev.On.flush {D : Dev} (h : D.On) : D.flush.On ∧ D.flush.n = D.n ∧ D.flush.losses = D.losses ∧ (∀ i, D.flush.page i = D.page i) ∧ ∀ i, D.flush.wt i = none := by
  unfold Dev.flush
  rw [h.spend.1, if_pos rfl, h.spend.2]
  refine ⟨⟨h.off, h.armed⟩, rfl, rfl, fun i => ?_, fun i => rfl⟩
  unfold Dev.page Dev.settled
  simp
theorem Dev.On.wr {D : Dev} (h : D.On) {base n : Nat} (b : List UInt8) (hb : base + 4 ≤ D.n) :
    (wr D base n b).2 = 0 ∧ (wr D base n b).1.On ∧ (wr D base n b).1.n = D.n ∧ (wr D base n b).1.losses = D.losses ∧ (∀ k, k < 4 → (wr D base n b).1.page (base + k) = .full (Dev.pad (rgPg b n k))) ∧
      (∀ i, (i < base ∨ base + 4 ≤ i) → (wr D base n b).1.page i = D.page i) ∧ ∀ i, (wr D base n b).1.wt i = none := by
  have step : ∀ (D : Dev) (k f : Nat), D.On → base + k < D.n → wrGo (base : Int) n b k (f + 1) D = wrGo (base : Int) n b (k + 1) f (D.write (base + k : Nat) (rgPg b n k)) := by
    intro D k f h hk
    rw [wrGo]
    have e : ((base : Int) + (k : Int)) = ((base + k : Nat) : Int) := by omega
    rw [e, (h.write hk (rgPg_le b n k)).1, if_pos rfl]
  have h0 := h.write (k := base + 0) (by omega) (rgPg_le b n 0)
  have h1 := h0.2.1.write (k := base + 1) (by rw [h0.2.2.1]; omega) (rgPg_le b n 1)
  have h2 := h1.2.1.write (k := base + 2) (by rw [h1.2.2.1, h0.2.2.1]; omega) (rgPg_le b n 2)
  have h3 := h2.2.1.write (k := base + 3) (by rw [h2.2.2.1, h1.2.2.1, h0.2.2.1]; omega) (rgPg_le b n 3)
  have hw : Go.Proofs.YtplpbbdakihnfaaGreat.wr D base n b = wrGo (base : Int) n b 4 0 ((((D.write (base + 0 : Nat) (rgPg b n 0)).write (base + 1 : Nat) (rgPg b n 1)).write (base + 2 : Nat) (rgPg b n 2)).write (base + 3 : Nat) (rgPg b n 3)) := by
    unfold Go.Proofs.YtplpbbdakihnfaaGreat.wr
    rw [step D 0 3 h (by omega), step _ 1 2 h0.2.1 (by rw [h0.2.2.1]; omega), step _ 2 1 h1.2.1 (by rw [h1.2.2.1, h0.2.2.1]; omega), step _ 3 0 h2.2.1 (by rw [h2.2.2.1, h1.2.2.1, h0.2.2.1]; omega)]
  rw [hw]
  have hf := h3.2.1.flush
  refine ⟨h3.2.1.changeE, hf.1, ?_, ?_, ?_, ?_, hf.2.2.2.2⟩
  · show Dev.n (Dev.flush _) = _
    rw [hf.2.1, h3.2.2.1, h2.2.2.1, h1.2.2.1, h0.2.2.1]
  · show Dev.losses (Dev.flush _) = _
    rw [hf.2.2.1, h3.2.2.2.1, h2.2.2.2.1, h1.2.2.2.1, h0.2.2.2.1]
  · intro k hk
    show Dev.page (Dev.flush _) _ = _
    rw [hf.2.2.2.1, h3.2.2.2.2, h2.2.2.2.2, h1.2.2.2.2, h0.2.2.2.2]
    match k, hk with
    | 0, _ => rw [if_neg (by omega), if_neg (by omega), if_neg (by omega), if_pos rfl]
    | 1, _ => rw [if_neg (by omega), if_neg (by omega), if_pos rfl]
    | 2, _ => rw [if_neg (by omega), if_pos rfl]
    | 3, _ => rw [if_pos rfl]
  · intro i hi
    show Dev.page (Dev.flush _) _ = _
    rw [hf.2.2.2.1, h3.2.2.2.2, h2.2.2.2.2, h1.2.2.2.2, h0.2.2.2.2, if_neg (by omega), if_neg (by omega), if_neg (by omega), if_neg (by omega)]
end Go.Proofs.YtplpbbdakihnfaaGreat
namespace Go.Proofs.YtplpbbdakihnfaaGreat
open Go.RowKit
structure Live (G : Lg) (D : Dev) : Prop where
  ok : G.Ok
  nd : (akeys G.keys).Nodup
  on : D.On
  los : G.losses = D.losses
  fit : G.first + 4 * G.regs.length ≤ D.n
theorem Live.next {G : Lg} {D : Dev} (h : Live G D) : G.next < G.regs.length := Nat.mod_lt _ h.ok.pos
theorem Live.wrote {G : Lg} {D : Dev} (h : Live G D) : (G.wrote D).2 = 0 ∧ (G.wrote D).1.On ∧ (G.wrote D).1.n = D.n ∧ (G.wrote D).1.losses = D.losses ∧ SealedAt ((G.wrote D).1.rpg G.first G.next) (G.number + 1) G.opn ∧
    (∀ i, i ≠ G.next → ∀ k, k < 4 → (G.wrote D).1.rpg G.first i k = D.rpg G.first i k) ∧ ∀ i, (G.wrote D).1.wt i = none := by
  have hn := h.next
  have hf := h.fit
  have hw := h.on.wr (base := G.first + 4 * G.next) (n := G.number + 1) (records G.opn) (by omega)
  refine ⟨hw.1, hw.2.1, hw.2.2.1, hw.2.2.2.1, fun k hk => ?_, fun i hi k hk => ?_, hw.2.2.2.2.2.2⟩
  · exact hw.2.2.2.2.1 k hk
  · refine hw.2.2.2.2.2.1 _ ?_
    rcases Nat.lt_or_gt_of_ne hi with h | h <;> omega
theorem moveK_nodup (i : Nat) (ks : Keys) (l : List Item) (hn : (akeys ks).Nodup) : (akeys (moveK i ks l)).Nodup := by
  rw [← moveT_all]; exact moveT_nodup i ks l hn _ (Nat.le_refl _)
theorem giveK_nodup (i : Nat) (ks : Keys) (l : List Item) (hn : (akeys ks).Nodup) : (akeys (giveK i ks l).2).Nodup := by
  rw [← giveT_all]; exact giveT_nodup i ks l hn _ (Nat.le_refl _)
theorem Live.sl {G : Lg} {D : Dev} (h : Live G D) (hn : G.number + 1 < 18446744073709551616) : (G.sl D).e = 0 ∧ Live (G.sl D).G (G.sl D).D ∧ (G.opn = [] → G.sl D = ⟨G, D, [], 0⟩) ∧ (G.opn ≠ [] → G.sl D = ⟨G.shut, (G.wrote D).1, G.given.1, 0⟩) := by
  by_cases h0 : G.opn = []
  · have e : G.sl D = ⟨G, D, [], 0⟩ := by unfold Lg.sl; rw [if_pos h0]
    rw [e]
    exact ⟨rfl, h, fun _ => rfl, fun hh => absurd h0 hh⟩
  · have hw := h.wrote
    have e : G.sl D = ⟨G.shut, (G.wrote D).1, G.given.1, 0⟩ := by
      unfold Lg.sl
      rw [if_neg h0, if_neg (fun hh => hh h.los), if_neg (by omega), if_pos hw.1]
    rw [e]
    refine ⟨rfl, ⟨h.ok.shut h.nd hn, moveK_nodup _ _ _ (giveK_nodup _ _ _ h.nd), hw.2.1, ?_, ?_⟩, fun hh => absurd hh h0, fun _ => rfl⟩
    · show G.losses = _
      rw [hw.2.2.2.1]; exact h.los
    · show G.first + 4 * G.shut.regs.length ≤ (G.wrote D).1.n
      rw [hw.2.2.1]
      have : G.shut.regs.length = G.regs.length := by simp [Lg.shut]
      rw [this]; exact h.fit
theorem Live.put {G : Lg} {D : Dev} (h : Live G D) (hn : G.number + 1 < 18446744073709551616) (x : Item) : Live (G.put D x).G (G.put D x).D ∧ ((G.put D x).e = 0 ↔ Lg.fits x = true) ∧ ((G.put D x).e = 0 ∨ (G.put D x).e = 1) ∧ (Lg.fits x = false → G.put D x = ⟨G, D, [], 1⟩) := by
  unfold Lg.put
  cases hf : Lg.fits x with
  | false => exact ⟨h, by simp, .inr rfl, fun _ => rfl⟩
  | true =>
    unfold Lg.fits at hf
    simp only [Bool.and_eq_true, decide_eq_true_eq] at hf
    have hadd : ∀ {G : Lg} {D : Dev}, Live G D → isum G.opn + x.size ≤ 1472 → Live (G.add x) D := fun hl hs => ⟨hl.ok.add hf.1 hs, nodup_aset _ _ _ hl.nd, hl.on, hl.los, hl.fit⟩
    simp only [if_true]
    by_cases hs : isum G.opn + x.size ≤ 1472
    · rw [if_pos hs]
      exact ⟨hadd h hs, by simp, .inl rfl, fun hh => by cases hh⟩
    · rw [if_neg hs]
      have hsl := h.sl hn
      rw [if_pos hsl.1]
      refine ⟨hadd hsl.2.1 ?_, by simp, .inl rfl, fun hh => by cases hh⟩
      rw [sl_opn hsl.1]
      simpa [isum] using hf.2
theorem new_on (n : Nat) : (Dev.new n).On := ⟨rfl, rfl⟩
end Go.Proofs.YtplpbbdakihnfaaGreat
namespace Go.Proofs.YtplpbbdakihnfaaGreat
open Go.RowKit
def Lg.one (losses : Int) (x : Item) : Lg := { losses, first := 0, regs := [.no, ⟨1, [x]⟩], opn := [], number := 1, keys := [(x.key, ⟨false, 1, 0⟩)] }
theorem fits_good {x : Item} (h : Lg.fits x = true) : x.good = true ∧ x.size ≤ 1472 := by
  unfold Lg.fits at h
  simpa using h
structure HasOne (D : Dev) (x : Item) : Prop where
  blank : ∀ k, k < 4 → D.rpg 0 0 k = .blank
  one : SealedAt (D.rpg 0 1) 1 [x]
theorem on_pages (D : Dev) (hw : ∀ i, D.wt i = none) : (∀ first i k, D.on.rpg first i k = D.rpg first i k) ∧ D.on.On ∧ D.on.n = D.n := by
  refine ⟨fun first i k => ?_, ⟨rfl, rfl⟩, rfl⟩
  unfold Dev.rpg Dev.page Dev.on Dev.settle
  simp [hw]
theorem HasOne.on {D : Dev} {x : Item} (h : HasOne D x) (hw : ∀ i, D.wt i = none) : HasOne D.on x :=
  ⟨fun k hk => by rw [(on_pages D hw).1]; exact h.blank k hk, fun k hk => by rw [(on_pages D hw).1]; exact h.one k hk⟩
end Go.Proofs.YtplpbbdakihnfaaGreat
end

section
namespace Go.Proofs.YtplpbbdakihnfaaGreat
open Go.RowKit
open Go.ChangeMaps (setBlock)
structure Eng where
  losses : Int
  blk : Sb
  last : Nat
  J : Jn
  B : Sto
  G : Lg
namespace Eng
def key (k : ByteArray) : Nat := khash k.data.toList
def counts (E : Eng) (x : Item) : Bool := decide (E.blk.horizon < x.ver.toNat) && !E.J.gone (key x.key) x.ver.toNat
def may (E : Eng) (k : ByteArray) : Bool := E.B.may k || E.G.has k
def one (E : Eng) (D : Dev) (k : ByteArray) : Option Item :=
  let a := if (E.B.get D k).2 = 0 ∧ E.counts (E.B.get D k).1 = true then some (E.B.get D k).1 else none
  if E.G.getE k = 0 ∧ E.counts (E.G.get k) = true then (match a with
    | some x => if x.ver < (E.G.get k).ver then some (E.G.get k) else some x
    | none => some (E.G.get k)) else a
def get (E : Eng) (D : Dev) (k : ByteArray) : Item := (E.one D k).getD Item.zero
def getE (E : Eng) (D : Dev) (k : ByteArray) : Int := match E.one D k with
  | some _ => 0
  | none => 5
end Eng
abbrev tEng : TypeId := 84
structure EngH where
  E : Nat
  j : JnH
  s : StoH
  g : LgH
def engBox (h : DevH) (t : EngH) (X : Eng) : Array Value := #[.pointer (some ⟨h.d, 0, none⟩), .int .i64 X.losses, .int .u64 X.blk.seq, .int .u64 X.blk.epoch, .int .u64 X.blk.reserved, .int .u64 X.blk.horizon, .int .u64 X.blk.gen, .bool X.blk.clean, .int .i64 X.blk.image, .int .u64 X.last,
  .pointer (some ⟨t.j.J, 0, none⟩), .pointer (some ⟨t.s.s, 0, none⟩), .pointer (some ⟨t.g.L, 0, none⟩)]
def EngH.spot (t : EngH) (h : DevH) : Nat → Prop := fun k => k = t.E ∨ t.j.own k ∨ (∃ p ∈ t.s.ps, k = p.2) ∨ t.g.spot k
def EngH.far (t : EngH) (B : Nat) : Prop := B ≤ t.E ∧ (∀ k, t.j.own k → B ≤ k) ∧ (∀ p ∈ t.s.ps, B ≤ p.2) ∧ ∀ k, t.g.own k → B ≤ k
structure EngAt (w : World) (h : DevH) (t : EngH) (X : Eng) : Prop where
  box : Blk w t.E tEng (engBox h t X)
  jn : JnAt w h t.j X.J
  sto : StoAt w h t.s X.B
  lg : LgAt w h t.g X.G
  jg : ∀ k, t.j.own k → ¬ t.g.own k
  sg : ∀ p ∈ t.s.ps, ¬ t.g.own p.2
  eg : ¬ t.g.own t.E
  blk : X.blk.Ok
  last : X.last < 18446744073709551616
  jfit : X.J.first + X.J.pages ≤ 4096
  pos : 0 < X.B.fs.length
section
variable {N : Nat} {S : Nat → Prop} {w w' : World} {h : DevH} {t : EngH} {X : Eng} {D : Dev}
theorem StoAt.bits_ty (hs : StoAt w h t.s X.B) {p : Nat × Nat} (hp : p ∈ t.s.ps) : ∃ cs, Blk w p.2 tBool cs := by
  obtain ⟨i, hi, e⟩ := List.getElem_of_mem hp
  have h1 : t.s.ps[i]? = some p := by rw [List.getElem?_eq_getElem hi, e]
  have hl := hs.len
  have h2 : X.B.fs[i]? = some (X.B.fs[i]'(by omega)) := List.getElem?_eq_getElem _
  exact ⟨_, (hs.flt i p _ h1 h2).bits⟩
theorem EngAt.foot (he : EngAt w h t X) (hd : DevN N w h D) (hc : Chg h.foot w w') : EngAt w' h t X :=
  { he with
    box := he.box.chg hc (hd.not_foot he.box (by decide) (by decide))
    jn := he.jn.foot hd hc
    sto := he.sto.foot hd hc
    lg := he.lg.foot hd hc }
theorem EngAt.chgNo (he : EngAt w h t X) (hc : Chg No w w') : EngAt w' h t X :=
  { he with
    box := he.box.chg hc (fun h => h)
    jn := he.jn.chgNo hc
    sto := he.sto.chgNo hc
    lg := he.lg.chgNo hc }
end
section
variable {N : Nat} {S : Nat → Prop} {w w' : World} {h : DevH} {t : EngH} {X : Eng} {D : Dev}
set_option maxRecDepth 100000 in
theorem edone_calls (hd : DevN N w h D) (he : EngAt w h t X) (hoff : D.off = false) :
    Calls Tryz.prog 48 #[.pointer (some ⟨t.E, 0, none⟩)] w fun e w' => e = .returned (.bool (decide (X.losses ≠ D.losses))) ∧ ∃ n, w' = w.drewN n := by
  have HL := fun n => Lib.hid (losses_calls (w := w.drewN n) (hd.chgNo ((Chg.refl No w).drewN n)))
  have HP := fun n => Lib.hid (power_calls (w := w.drewN n) (hd.chgNo ((Chg.refl No w).drewN n)))
  have c0 := he.box.cell 0
  have c1 := he.box.cell 1
  simp [engBox] at c0 c1
  obtain ⟨a, ha⟩ : ∃ a, a = X.losses := ⟨_, rfl⟩
  obtain ⟨b, hb⟩ : ∃ b, b = D.losses := ⟨_, rfl⟩
  rw [← ha] at c1 ⊢
  rw [← hb] at HL ⊢
  rw [hoff] at HP
  clear hd he ha hb hoff
  go_enter Tryz.func48, Tryz.ntmps48
  go_wp2_with fail
  go_quiet ((first | (go_at_call 35; exact quiet_left (HL _).out) | (go_at_call 34; exact quiet_left (HP _).out)))
  go_wp2
  go_ret
  refine ⟨?_, _, rfl⟩
  congr 2
  by_cases h : a = b <;> simp [h]
end
end Go.Proofs.YtplpbbdakihnfaaGreat
end
