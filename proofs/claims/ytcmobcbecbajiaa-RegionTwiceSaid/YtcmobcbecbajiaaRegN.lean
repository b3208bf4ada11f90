/- region.Open, walked: its first half. -/
import Derived.Test.YtcmobcbecbajiaaStep
import Derived.Test.YtcmobcbecbajiaaRegH
namespace Go.Proofs.Ytcmobcbecbajiaa
open Go.RowKit
open Go.ChangeMaps (setBlock)
attribute [local go_sem ↓] Go.wp_at_zero Go.wp_at_succ
set_option linter.unusedSimpArgs false
set_option linter.unusedVariables false

theorem ti_seal : TI Try.prog tSeal (.agg #[.int .u64 0, .slice none 0 0]) 2 32 := (by kernel_rfl : (Try.prog.info? tSeal).map (fun i => (i.zero, i.size, i.bytes)) = some (some (.agg #[.int .u64 0, .slice none 0 0]), 2, 32))

theorem gopen_bad {N : Nat} {w : World} {h : DevH} {D : Dev} (hd : DevN N w h D) (first n : Nat) (hn : 1 ≤ n) (hm : n ≤ 64) (hf : first ≤ D.n) (hb : D.n < first + 4 * n) :
    Calls Try.prog 24 #[.pointer (some ⟨h.d, 0, none⟩), .int .i64 first, .int .i64 n] w fun e w' => e = .returned (.tuple #[.pointer none, .int .i64 1]) ∧ Chg No w w' := by
  have HP := Lib.hid (pages_calls hd)
  have hnm := hd.nmost
  obtain ⟨dn, hdn⟩ : ∃ dn, dn = D.n := ⟨_, rfl⟩
  rw [← hdn] at HP hf hb hnm
  clear hd hdn
  have e1 : IntKind.i64.wrap (4 * (n : Int)) = 4 * (n : Int) := IntWalk.i64_in _ (by omega)
  have e2 : IntKind.i64.wrap ((dn : Int) - (first : Int)) = (dn : Int) - (first : Int) := IntWalk.i64_in _ (by omega)
  have b1 : decide ((first : Int) < 0) = false := decide_eq_false (by omega)
  have b2 : decide ((n : Int) < 1) = false := decide_eq_false (by omega)
  have b3 : decide ((64 : Int) < (n : Int)) = false := decide_eq_false (by omega)
  have b4 : decide ((dn : Int) < (first : Int)) = false := decide_eq_false (by omega)
  have b4' : ¬ dn < first := by omega
  have b5 : decide ((dn : Int) - (first : Int) < 4 * (n : Int)) = true := decide_eq_true (by omega)
  go_enter Try.func24, Try.ntmps24
  go_wp2_with (first | (go_at_call 57; refine HP.out.mono ?_; rintro e w' ⟨rfl, rfl⟩))
  go_ret2
  exact ⟨rfl, by (repeat (first | (with_reducible exact Chg.refl _ _) | (with_reducible assumption) | (with_reducible refine Chg.drewN ?_ _) | (with_reducible refine Chg.drew ?_) | (with_reducible refine Chg.alloc ?_ _) | (with_reducible refine Chg.setCell ?_ (by first | (left; simp [DevH.foot]; done) | (right; simp; done) | (right; simp; omega)) _)))⟩

def opTopT (D : Dev) (first i : Nat) : Nat := (List.range i).foldl (fun m i => ldTop (D.rpg first i) m 4) 0
theorem opTopT_succ (D : Dev) (first i : Nat) : opTopT D first (i + 1) = ldTop (D.rpg first i) (opTopT D first i) 4 := by unfold opTopT; rw [List.range_succ, List.foldl_append]; rfl
theorem opTopT_lt (D : Dev) (first i : Nat) : opTopT D first i < 18446744073709551616 := by
  induction i with
  | zero => simp [opTopT]
  | succ i ih => rw [opTopT_succ]; exact ldTop_lt _ _ ih 4
theorem opRegs_succ (D : Dev) (first i : Nat) : opRegs D first (i + 1) = opRegs D first i ++ [ldS (D.rpg first i)] := by unfold opRegs; rw [List.range_succ, List.map_append]; rfl
theorem opRegs_len (D : Dev) (first i : Nat) : (opRegs D first i).length = i := by simp [opRegs]
theorem ldS_ok (P : Nat → Pg) : (ldS P).l.length ≤ 1000 ∧ (ldS P).num < 18446744073709551616 := by
  unfold ldS
  cases hl : listOf (ldB P 4) with
  | none => exact ⟨by simp [Sealed.no], by simp [Sealed.no]⟩
  | some l =>
    have h1 := listOf_len hl
    have h2 := ldB_le P 4
    simp only
    split
    · exact ⟨by simp only; omega, pg_rn_lt _ _⟩
    · exact ⟨by simp [Sealed.no], by simp [Sealed.no]⟩

/-- while regions are read -/
structure OpMid (w : World) (h : DevH) (D : Dev) (N first M L i : Nat) (R : Value) (wr : World) : Prop where
  box : Blk wr L tLog (openBox h D.losses first R (opTopT D first i) M)
  regs : ∃ ses : List (Nat × Value), ses.length = i ∧ wr.ownsRow w.heap.size tSeal 2 R i (secs ses) ∧ ∀ (j : Nat) (S : Sealed), (opRegs D first i)[j]? = some S → ∃ v, ses[j]? = some (S.num, v) ∧ wr.ownsRow w.heap.size tItem 5 v S.l.length (its S.l)
  map : MapIs skey wr M (amap plv ([] : Keys))
  dev : DevN N wr h D
  chg : Chg h.foot w wr
  far : M ≠ h.M

theorem rd_two (w : World) (t : TypeId) (a b : Value) : Rd (w.alloc (.cells #[a, b] t)) t (some ⟨w.heap.size, 0, none⟩) (1 * 2) [a, b] := by
  have := Rd.ofBlk (k := 2) (Blk.new w t #[a, b]) (by simp)
  simpa using this
theorem own_no_foot {N : Nat} {w : World} {h : DevH} {D : Dev} (hd : DevN N w h D) {base size n : Nat} {e : TypeId} {v : Value} {xs : List Value} (ho : w.ownsRow base e size v n xs) (h1 : e ≠ tDev) (h2 : e ≠ tPP) : ∀ k, v.ownBlock = some k → ¬ h.foot k := own_foot hd ho h1 h2
/-- the regions so far in another world -/
theorem OpMid.rows {w wr w1 : World} {h : DevH} {D : Dev} {N first M L i : Nat} {R : Value} {S : Nat → Prop} (H : OpMid w h D N first M L i R wr) (hc : Chg S wr w1) (h1 : ∀ k cs T fz, wr.heap[k]? = some (.cells cs T fz) → T = tSeal ∨ T = tItem → ¬ S k) :
    ∃ ses : List (Nat × Value), ses.length = i ∧ w1.ownsRow w.heap.size tSeal 2 R i (secs ses) ∧ ∀ (j : Nat) (S : Sealed), (opRegs D first i)[j]? = some S → ∃ v, ses[j]? = some (S.num, v) ∧ w1.ownsRow w.heap.size tItem 5 v S.l.length (its S.l) := by
  obtain ⟨ses, e1, e2, e3⟩ := H.regs
  refine ⟨ses, e1, own_chg e2 hc (fun k hk => by obtain ⟨cs, hg⟩ := own_cells_at e2 hk; exact h1 k _ _ _ hg (.inl rfl)), fun j S hS => ?_⟩
  obtain ⟨v, e4, e5⟩ := e3 j S hS
  exact ⟨v, e4, own_chg e5 hc (fun k hk => by obtain ⟨cs, hg⟩ := own_cells_at e5 hk; exact h1 k _ _ _ hg (.inr rfl))⟩

theorem OpMid.next {N : Nat} {w wr w1 w9 : World} {h : DevH} {D : Dev} {first M L i : Nat} {Ar A9 : Option Addr} {cr c9 b9 : Nat} {S : Sealed} {v : Value} {ses : List (Nat × Value)} (H : OpMid w h D N first M L i (.slice Ar i cr) wr)
    (hS : opRegs D first (i + 1) = opRegs D first i ++ [S]) (hM : w.heap.size ≤ M) (hML : M < wr.heap.size) (hLz : w.heap.size ≤ L)
    (hc1 : Chg (fun k => h.foot k ∨ k = L) wr w1) (hd1 : DevN N w1 h D) (hb1 : Blk w1 L tLog (openBox h D.losses first (.slice Ar i cr) (opTopT D first (i + 1)) M)) (hov : w1.ownsRow b9 tItem 5 v S.l.length (its S.l)) (hb9 : wr.heap.size ≤ b9)
    (hs9 : ses.length = i ∧ w1.ownsRow w.heap.size tSeal 2 (.slice Ar i cr) i (secs ses) ∧ ∀ (j : Nat) (S : Sealed), (opRegs D first i)[j]? = some S → ∃ v, ses[j]? = some (S.num, v) ∧ w1.ownsRow w.heap.size tItem 5 v S.l.length (its S.l))
    (ho9 : w9.ownsRow w.heap.size tSeal 2 (.slice A9 (i + 1) c9) (i + 1) (secs ses ++ [.int .u64 S.num, v])) (hg9 : Chg (fun k => (Value.slice Ar i cr).ownBlock = some k) w1 w9) :
    OpMid w h D N first M L (i + 1) (.slice A9 (i + 1) c9) (w9.setCell ⟨L, 3, none⟩ (.slice A9 (i + 1) c9)) := by
  have hc : Chg (fun k => k = L) w9 (w9.setCell ⟨L, 3, none⟩ (.slice A9 (i + 1) c9)) := Chg.setCell (S := fun k => k = L) (Chg.refl _ _) (.inl rfl) _
  obtain ⟨g1, g2, g3⟩ := hs9
  have hbox9 := hb1.chg hg9 (fun e => own_other g2 hb1 (by decide) e)
  have hit : ∀ {b n : Nat} {v : Value} {xs : List Value}, w1.ownsRow b tItem 5 v n xs → (w9.setCell ⟨L, 3, none⟩ (.slice A9 (i + 1) c9)).ownsRow b tItem 5 v n xs := by
    intro b n v xs ho
    have h9 := own_chg ho hg9 (fun k hk e => own_ne ho g2 (by decide) k hk e)
    exact own_chg h9 hc (fun k hk e => by obtain ⟨cs, hg⟩ := own_cells_at h9 hk; subst e; have := hbox9; unfold Blk at this; rw [hg] at this; injection this with this; injection this with _ e2; exact absurd e2 (by decide))
  have hwz := H.chg.size
  have hd9 : DevN N w9 h D := dev_ty hd1 hg9 (fun k _ e => by obtain ⟨cs, hg⟩ := own_cells_at g2 e; exact ⟨cs, tSeal, _, hg, by decide, by decide, by decide, by decide⟩)
  refine ⟨?_, ?_, ?_, ?_, ?_, H.far⟩
  · have := hbox9.set_ 3 (.slice A9 (i + 1) c9)
    simpa [openBox] using this
  · refine ⟨ses ++ [(S.num, v)], by simp [g1], ?_, ?_⟩
    · have e : secs (ses ++ [(S.num, v)]) = secs ses ++ [.int .u64 S.num, v] := by rw [secs_append]; rfl
      rw [e]
      exact own_chg ho9 hc (fun k hk e => by obtain ⟨cs, hg⟩ := own_cells_at ho9 hk; subst e; have := hbox9; unfold Blk at this; rw [hg] at this; injection this with this; injection this with _ e2; exact absurd e2 (by decide))
    · intro j S' hS'
      rw [hS] at hS'
      have hlen := opRegs_len D first i
      by_cases hj : j < i
      · rw [List.getElem?_append_left (by omega)] at hS'
        obtain ⟨v', e1, e2⟩ := g3 j S' hS'
        exact ⟨v', by rw [List.getElem?_append_left (by omega)]; exact e1, hit e2⟩
      · have hj2 : j = i := by
          have := (List.getElem?_eq_some_iff.1 hS').1
          simp at this
          omega
        subst hj2
        rw [List.getElem?_append_right (by omega), hlen] at hS'
        simp at hS'
        subst hS'
        exact ⟨v, by rw [List.getElem?_append_right (by omega), g1]; simp, own_base (hit hov) (by omega)⟩
  · have hm1 := H.map.chg hc1 (by rintro (hf | he); exact (by rcases hf with hf | hf | hf; (obtain ⟨a, b, c, e', hb⟩ := H.dev.box; exact H.map.ne_blk hb hf); (obtain ⟨ps, hb, _⟩ := H.dev.row; exact H.map.ne_blk hb hf); exact H.far hf); exact H.map.ne_blk H.box he)
    have hm9 := hm1.chg hg9 (fun e => own_no_map (W := w1) hm1 g2 _ e rfl)
    exact hm9.chg hc (fun e => hm9.ne_blk hbox9 e)
  · exact dev_ty hd9 hc (fun k _ e => by subst e; exact ⟨_, tLog, _, hbox9, by decide, by decide, by decide, by decide⟩)
  · have h1 : Chg h.foot w w1 := H.chg.then hc1 (fun k hk e => by rcases e with e | e; exact e; omega)
    have h2 : Chg h.foot w w9 := h1.then hg9 (fun k hk e => by have := own_new g2 k e; omega)
    exact h2.then hc (fun k hk e => by omega)

def layT (i : Nat) (ks : Keys) (l : List Item) (k : Nat) : Keys := (l.zipIdx.take k).foldl (fun ks p => aset ks p.1.key ⟨false, i, p.2⟩) ks
theorem layT_succ (i : Nat) (ks : Keys) {l : List Item} {k : Nat} {x : Item} (h : l[k]? = some x) : layT i ks l (k + 1) = aset (layT i ks l k) x.key ⟨false, i, k⟩ := foldl_take _ _ _ _ _ (zip_get h)
theorem layT_all (i : Nat) (ks : Keys) (l : List Item) : layT i ks l l.length = layK i ks l := by
  unfold layT
  rw [List.take_of_length_le (by simp)]
  rfl
theorem Lg.Ok.lay {G : Lg} (ho : G.Ok) {q k : Nat} {S : Sealed} {x : Item} (hS : G.regs[q]? = some S) (hx : S.l[k]? = some x) : ({ G with keys := aset G.keys x.key ⟨false, q, k⟩ } : Lg).Ok :=
  { ho with
    keys := by
      intro key p hp
      have h : aget (aset G.keys x.key ⟨false, q, k⟩) key = some p := hp
      rw [aget_aset] at h
      split at h
      · rename_i hk
        injection h with h
        subst h
        unfold Lg.plOk
        simp only [Bool.false_eq_true, if_false]
        exact ⟨S, x, hS, hx, hk⟩
      · exact ho.keys key p h }
theorem byNum_lt (regs : List Sealed) : ∀ i ∈ byNum regs, i < regs.length := by
  intro i hi
  unfold byNum sortR at hi
  rw [List.mem_reverse] at hi
  have := (insL_mem (rnum regs) i (counts regs)).1 hi
  exact counts_mem this
theorem byNum_len (regs : List Sealed) : (byNum regs).length ≤ regs.length := by
  unfold byNum sortR
  rw [List.length_reverse]
  have h1 := insL_length (rnum regs) (counts regs)
  have h2 := counts_len regs regs.length
  unfold insL at h1
  rw [h1]; exact h2

/-- a log whose regions are read -/
def Lg.bare (D : Dev) (first n : Nat) : Lg := { losses := D.losses, first, regs := opRegs D first n, opn := [], number := opTopT D first n, keys := [] }
theorem OpMid.log {N : Nat} {w wr : World} {h : DevH} {D : Dev} {first M L n : Nat} {R : Value} (H : OpMid w h D N first M L n R wr) (hM : w.heap.size ≤ M) (hL : w.heap.size ≤ L) (hn : 1 ≤ n) (hm : n ≤ 64) (hf : first + 4 * n ≤ 4096) :
    LgAt wr h ⟨L, M, R, .slice none 0 0, fun k => w.heap.size ≤ k ∧ k < wr.heap.size⟩ (Lg.bare D first n) := by
  have hlen := opRegs_len D first n
  refine { box := ?_, regs := ?_, opn := World.ownsRow_nil _ _ _ _, map := H.map, ownL := ⟨hL, H.box.lt⟩, ownM := ⟨hM, H.map.lt⟩, ownR := ?_, ownO := fun k hk => by simp [Value.ownBlock] at hk, lt := fun k hk => hk.2, far := H.far, ok := ?_ }
  · have := H.box
    simpa [openBox, Lg.bare, isum] using this
  · obtain ⟨ses, e1, e2, e3⟩ := H.regs
    refine ⟨ses, by show _ = (opRegs D first n).length; rw [hlen]; exact e1, by show World.ownsRow _ 0 tSeal 2 R (opRegs D first n).length _; rw [hlen]; exact own_base e2 (Nat.zero_le _), fun j S hS => ?_⟩
    obtain ⟨v, e4, e5⟩ := e3 j S hS
    obtain ⟨A, c, rfl, hnc, hr⟩ := own_slice e5
    refine ⟨_, e4, A, c, rfl, hnc, hr, fun g off h0 hA => ⟨?_, by simp [Value.ownBlock]⟩⟩
    have := e5.lt g (by
      rcases e5.2 with ⟨e, _⟩ | ⟨g', cap, cur, e, _⟩
      · injection e with e; rw [hA] at e; cases e
      · injection e with e
        rw [hA] at e
        simp only [Option.some.injEq, Addr.mk.injEq, and_true] at e
        rw [hA, e.1, e.2]
        rfl)
    exact this
  · intro k hk
    obtain ⟨ses, e1, e2, e3⟩ := H.regs
    exact e2.lt k hk
  · refine { pos := by show 0 < (opRegs D first n).length; omega, most := by show (opRegs D first n).length ≤ 64; omega, fit := by show first + 4 * (opRegs D first n).length ≤ 4096; omega, num := opTopT_lt _ _ _, small := ?_, good := rfl, sum := by simp [Lg.bare, isum], keys := fun key p hp => by cases hp }
    intro S hS
    unfold Lg.bare opRegs at hS
    obtain ⟨j, _, rfl⟩ := List.mem_map.1 hS
    exact ldS_ok _

section
variable {N : Nat} {w : World} {h : DevH} {D : Dev}
set_option maxRecDepth 100000 in
set_option maxHeartbeats 8000000 in
theorem gopen_calls (hd : DevN N w h D) (first n : Nat) (hn : 1 ≤ n) (hm : n < 20) (hf : first + 4 * n ≤ D.n) (hoff : D.off = false) :
    Calls Try.prog 24 #[.pointer (some ⟨h.d, 0, none⟩), .int .i64 first, .int .i64 n] w fun e w' => ∃ t : LgH, e = .returned (.tuple #[.pointer (some ⟨t.L, 0, none⟩), .int .i64 0]) ∧ LgAt w' h t (Lg.opened D first n) ∧ DevN N w' h D ∧ (∀ k, t.own k → w.heap.size ≤ k) ∧ Chg h.foot w w' := by
  have HP := Lib.hid (pages_calls hd)
  have HPO := Lib.hid (power_calls hd)
  have HLO := Lib.hid (losses_calls hd)
  rw [hoff] at HPO
  have HOFF := Lib.hid hoff
  have hnm := hd.nmost
  have HD := Lib.hid hd
  have HFIT := Lib.hid hf
  have hMf : w.heap.size ≠ h.M := fun e => by have := foot_size hd (k := h.M) (.inr (.inr rfl)); omega
  have HMF := Lib.hid hMf
  obtain ⟨dn, hdn⟩ : ∃ dn, dn = D.n := ⟨_, rfl⟩
  rw [← hdn] at HP hf hnm
  have hmm := @run_makeMap Try.prog
  clear hd hdn hoff hMf
  have e1 : IntKind.i64.wrap (4 * (n : Int)) = 4 * (n : Int) := IntWalk.i64_in _ (by omega)
  have e2 : IntKind.i64.wrap ((dn : Int) - (first : Int)) = (dn : Int) - (first : Int) := IntWalk.i64_in _ (by omega)
  have b1 : decide ((first : Int) < 0) = false := decide_eq_false (by omega)
  have b2 : decide ((n : Int) < 1) = false := decide_eq_false (by omega)
  have b3 : decide ((64 : Int) < (n : Int)) = false := decide_eq_false (by omega)
  have b4 : decide ((dn : Int) < (first : Int)) = false := decide_eq_false (by omega)
  have b4' : ¬ dn < first := by omega
  have b5 : decide ((dn : Int) - (first : Int) < 4 * (n : Int)) = false := decide_eq_false (by omega)
  obtain ⟨lo, hlo⟩ : ∃ lo, lo = D.losses := ⟨_, rfl⟩
  rw [← hlo] at HLO
  have HLOE := Lib.hid hlo
  clear hlo
  go_enter Try.func24, Try.ntmps24
  go_wp2_with (first
    | (go_at_call 57; refine HP.out.mono ?_; rintro e w' ⟨rfl, rfl⟩)
    | (go_at_call 60; refine HPO.out.mono ?_; rintro e w' ⟨rfl, rfl⟩)
    | (go_at_call 59; refine HLO.out.mono ?_; rintro e w' ⟨rfl, rfl⟩))
  go_loopg [52] n (fun gk vi wr => ∃ (i : Nat) (R : Value), gk = n - i ∧ i ≤ n ∧ vi = .int .i64 i ∧ Hid (OpMid w h D N first w.heap.size (w.heap.size + 1) i R wr))
  case atStart =>
    refine ⟨0, .slice none 0 0, rfl, Nat.zero_le _, rfl, ?_⟩
    have hm0 := MapIs.made skey w
    refine ⟨?_, ⟨[], rfl, World.ownsRow_nil _ _ _ _, fun j S hS => by simp [opRegs] at hS⟩, hm0.alloc _, HD.out.chgNo (by (repeat (first | (with_reducible exact Chg.refl _ _) | (with_reducible assumption) | (with_reducible refine Chg.drewN ?_ _) | (with_reducible refine Chg.drew ?_) | (with_reducible refine Chg.alloc ?_ _) | (with_reducible refine Chg.setCell ?_ (by first | (left; simp [DevH.foot]; done) | (right; simp; done) | (right; simp; omega)) _)))), by (repeat (first | (with_reducible exact Chg.refl _ _) | (with_reducible assumption) | (with_reducible refine Chg.drewN ?_ _) | (with_reducible refine Chg.drew ?_) | (with_reducible refine Chg.alloc ?_ _) | (with_reducible refine Chg.setCell ?_ (by first | (left; simp [DevH.foot]; done) | (right; simp; done) | (right; simp; omega)) _))), HMF.out⟩
    have := Blk.new (w.alloc (.map #[] 0)) tLog (openBox h D.losses first (.slice none 0 0) (opTopT D first 0) w.heap.size)
    rw [World.size_alloc] at this
    rw [HLOE.out]
    exact this
  case round =>
    obtain ⟨i, R, rfl, hi, rfl, H⟩ := hrel
    by_cases hlt : i < n
    · obtain ⟨ses, hses, hrow, hreg⟩ := H.out.regs
      obtain ⟨Ar, cr, rfl, hncr, _⟩ := own_slice hrow
      have d3 := H.out.box.cell 3
      have f3 := H.out.box.frozen 3
      have hll := H.out.box.lt
      simp [openBox] at d3
      have HLD := fun W => Lib.hid (fun hc : Chg No wr W => rload_calls (H.out.dev.chgNo hc) (w.heap.size + 1) D.losses first i (opTopT D first i) w.heap.size (.slice Ar i cr) (H.out.box.chg hc (fun h => h)) HOFF.out (by have := HFIT.out; omega) (opTopT_lt _ _ _))
      have HTS : Hid (opTopT D first (i + 1) = ldTop (D.rpg first i) (opTopT D first i) 4) := opTopT_succ _ _ _
      have HRS : Hid (opRegs D first (i + 1) = opRegs D first i ++ [ldS (D.rpg first i)]) := opRegs_succ _ _ _
      obtain ⟨S, hS⟩ : ∃ S, S = ldS (D.rpg first i) := ⟨_, rfl⟩
      rw [← hS] at HRS
      simp only [← hS] at HLD
      rw [← HTS.out] at HLD
      have hwz := H.out.chg.size
      have HFB : ∀ W, Hid (Chg (fun k => h.foot k ∨ k = w.heap.size + 1) wr W → ∀ k cs T fz, wr.heap[k]? = some (.cells cs T fz) → T = tSeal ∨ T = tItem → ¬ (h.foot k ∨ k = w.heap.size + 1)) := fun W => fun hc k cs T fz hg hT => by
        rintro (hf | he)
        · rcases hT with rfl | rfl <;> exact H.out.dev.not_foot hg (by decide) (by decide) hf
        · have hb := H.out.box
          rw [he] at hg
          unfold Blk at hb
          rw [hg] at hb
          injection hb with hb
          injection hb with _ e
          rcases hT with rfl | rfl <;> exact absurd e (by decide)
      have h63 : i + 1 ≤ maxLen := by simp only [maxLen]; omega
      have hby : (i + 1) * 32 ≤ 140737488355328 := by omega
      clear hS hses hrow hreg hmm
      go_wp2_with fail
      go_region_law ((first
        | (refine step_call2 _ rfl 66 (.tmp 60) (.tmp 61) _ rfl _ _ rfl rfl (callf_load _ _ _) ((HLD _).out (by (repeat (first | (with_reducible exact Chg.refl _ _) | (with_reducible assumption) | (with_reducible refine Chg.drewN ?_ _) | (with_reducible refine Chg.drew ?_) | (with_reducible refine Chg.alloc ?_ _) | (with_reducible refine Chg.setCell ?_ (by first | (left; simp [DevH.foot]; done) | (right; simp; done) | (right; simp; omega)) _))))) ?_
           rintro e w1 ⟨v, rfl, hov, hd1, hb1, hc1⟩
           obtain ⟨Av, cv, rfl, hncv, hrv⟩ := own_slice hov
           have HC1 : Hid (Chg (fun k => h.foot k ∨ k = w.heap.size + 1) wr w1) := (by (repeat (first | (with_reducible exact Chg.refl _ _) | (with_reducible assumption) | (with_reducible refine Chg.drewN ?_ _) | (with_reducible refine Chg.drew ?_) | (with_reducible refine Chg.alloc ?_ _) | (with_reducible refine Chg.setCell ?_ (by first | (left; simp [DevH.foot]; done) | (right; simp; done) | (right; simp; omega)) _))) : Chg No wr _).mono (fun _ _ h => h.elim) |>.trans hc1
           have HB1 := Lib.hid hb1
           have HD1 := Lib.hid hd1
           have HOV := Lib.hid hov
           have d3' := hb1.cell 3
           have f3' := hb1.frozen 3
           have hll' := hb1.lt
           simp [openBox] at d3'
           clear hov hd1 hb1 hc1 hrv
           refine ⟨_, rfl, ?_⟩)
        | (obtain ⟨ses, hses, hrow, hreg⟩ := H.out.rows HC1.out ((HFB _).out HC1.out)
           refine step_app _ rfl (.tmp 59) (.tmp 63) tSeals rfl tSeal Try.underlying107 ti_seal rfl (by omega) w.heap.size (.slice Ar i cr) i (secs ses) rfl (by first | exact hrow.alloc _ | exact (own_chg hrow (by (repeat (first | (with_reducible exact Chg.refl _ _) | (with_reducible assumption) | (with_reducible refine Chg.drewN ?_ _) | (with_reducible refine Chg.drew ?_) | (with_reducible refine Chg.alloc ?_ _) | (with_reducible refine Chg.setCell ?_ (by first | (left; simp [DevH.foot]; done) | (right; simp; done) | (right; simp; omega)) _))) : Chg No w1 _) (fun _ _ h => h))) tSeal _ 1 1 [.int .u64 S.num, .slice Av S.l.length cv] rfl (rd_two _ tSeal _ _) (by simp [Value.oneCell']) h63 hby (by have := HC1.out.size; simp; omega) ?_
           intro v9 w9 ho9 hg9 hb9
           obtain ⟨A9, c9, rfl, hnc9, hrd9⟩ := own_slice ho9
           have HO9 : Hid (w9.ownsRow w.heap.size tSeal 2 (.slice A9 (i + 1) c9) (i + 1) (secs ses ++ [.int .u64 S.num, .slice Av S.l.length cv])) := ho9
           have HS9 : Hid (ses.length = i ∧ w1.ownsRow w.heap.size tSeal 2 (.slice Ar i cr) i (secs ses) ∧ ∀ (j : Nat) (S : Sealed), (opRegs D first i)[j]? = some S → ∃ v, ses[j]? = some (S.num, v) ∧ w1.ownsRow w.heap.size tItem 5 v S.l.length (its S.l)) := ⟨hses, hrow, hreg⟩
           have HG9 : Hid (Chg (fun k => Value.ownBlock (.slice Ar i cr) = some k) w1 w9) := Chg.grown (by (repeat (first | (with_reducible exact Chg.refl _ _) | (with_reducible assumption) | (with_reducible refine Chg.drewN ?_ _) | (with_reducible refine Chg.drew ?_) | (with_reducible refine Chg.alloc ?_ _) | (with_reducible refine Chg.setCell ?_ (by first | (left; simp [DevH.foot]; done) | (right; simp; done) | (right; simp; omega)) _)))) hg9 (fun k' hk' => .inl hk')
           have hb9' := HB1.out.chg HG9.out (fun e => own_other hrow HB1.out (by decide) e)
           have HB9 := Lib.hid hb9'
           have d39 := hb9'.cell 3
           have f39 := hb9'.frozen 3
           simp [openBox] at d39
           clear ho9 hg9 hb9 hrd9 hb9' hses hrow hreg)))
      all_goals
        go_wp2
        go_roundg (n - (i + 1))
        case measure => omega
        case rel => exact ⟨i + 1, _, rfl, by omega, by go_num, OpMid.next H.out HRS.out (Nat.le_refl _) H.out.map.lt (Nat.le_succ _) HC1.out HD1.out HB1.out HOV.out (Nat.le_refl _) HS9.out HO9.out HG9.out⟩
    · obtain rfl : i = n := by omega
      have hl1 := H.out.log (Nat.le_refl _) (Nat.le_succ _) hn (by omega) (by have := HFIT.out; omega)
      have hbm := byNum_lt (opRegs D first i)
      have HBN := Lib.hid (byNumber_calls hl1 (by show (opRegs D first i).length < 20; rw [opRegs_len]; exact hm))
      have HL1 := Lib.hid hl1
      have HCH := Lib.hid H.out.chg
      have HDV := Lib.hid H.out.dev
      have hbl := byNum_len (opRegs D first i)
      rw [opRegs_len] at hbm hbl
      obtain ⟨bn, hbn⟩ : ∃ bn, bn = byNum (Lg.bare D first i).regs := ⟨_, rfl⟩
      have hbm' : ∀ j ∈ bn, j < i := fun j hj => hbm j (by rw [hbn] at hj; exact hj)
      have hbl' : bn.length ≤ i := by rw [hbn]; exact hbl
      rw [← hbn] at HBN
      have HBE := Lib.hid hbn
      have HBM := Lib.hid hbm'
      have HOPK : Hid (Lg.opened D first i = { Lg.bare D first i with keys := bn.foldl (fun ks j => layK j ks (rl (Lg.bare D first i).regs j)) [] }) := by show _ = _; rw [hbn]; rfl
      obtain ⟨t1, ht1⟩ : ∃ t1 : LgH, t1 = ⟨w.heap.size + 1, w.heap.size, R, .slice none 0 0, fun k => w.heap.size ≤ k ∧ k < wr.heap.size⟩ := ⟨_, rfl⟩
      have HTL : Hid (t1.L = w.heap.size + 1 ∧ t1.M = w.heap.size ∧ t1.R = R ∧ ∀ k, t1.own k → w.heap.size ≤ k) := by rw [ht1]; exact ⟨rfl, rfl, rfl, fun k hk => hk.1⟩
      rw [← ht1] at HL1
      have hrow := HL1.out.row
      obtain ⟨r, ro, rc, hR, hrg, _⟩ := hrow
      obtain ⟨rfl, _, _, _⟩ := HL1.out.rowAt hR
      have HRR := Lib.hid hR
      obtain ⟨G1, hG1⟩ : ∃ G1 : Lg, G1 = Lg.bare D first i := ⟨_, rfl⟩
      rw [← hG1] at HL1 HOPK HBE
      have HGE : Hid (G1.regs.length = i ∧ G1.keys = []) := by rw [hG1]; exact ⟨opRegs_len _ _ _, rfl⟩
      clear hl1 hbm hbl hbn hbm' ht1 hR hG1 hlt hrg
      go_wp2_with fail
      refine HBN.out.mono ?_
      rintro e w1 ⟨vb, rfl, hob, hc1⟩
      obtain ⟨Ab, cb, rfl, hncb, hrb⟩ := own_slice hob
      have HRB : Hid (Rd w1 tInt1 Ab bn.length (ints bn)) := by show Rd _ _ _ _ _; simpa using hrb
      have HC1 := Lib.hid hc1
      obtain ⟨nb, hnb⟩ : ∃ nb, nb = bn.length := ⟨_, rfl⟩
      rw [← hnb] at HRB hbl' ⊢
      have HNB := Lib.hid hnb
      clear hob hc1 hrb hnb HBN
      go_wp2
      go_loopg [71] nb (fun gk vi wz => ∃ j : Nat, gk = nb - j ∧ j ≤ nb ∧ vi = .int .i64 j ∧
        Hid (LgAt wz h t1 { G1 with keys := (bn.take j).foldl (fun ks j => layK j ks (rl G1.regs j)) [] } ∧ DevN N wz h D ∧ Rd wz tInt1 Ab nb (ints bn) ∧ Chg h.foot w wz))
      case atStart =>
        refine ⟨0, rfl, Nat.zero_le _, rfl, ?_, HDV.out.chgNo HC1.out, HRB.out, HCH.out.then HC1.out (fun _ _ h => h.elim)⟩
        have := HL1.out.chgNo HC1.out
        have e : ({ G1 with keys := (bn.take 0).foldl (fun ks j => layK j ks (rl G1.regs j)) [] } : Lg) = G1 := by
          simp only [List.take_zero, List.foldl_nil, ← HGE.out.2]
        rw [e]; exact this
      case round =>
        obtain ⟨j, rfl, hj, rfl, H2⟩ := hrel
        by_cases hjl : j < nb
        · obtain ⟨q, hq⟩ : ∃ q, bn[j]? = some q := ⟨_, List.getElem?_eq_getElem (by rw [← HNB.out]; exact hjl)⟩
          have hqi := HBM.out q (List.mem_of_getElem? hq)
          obtain ⟨S, hS⟩ : ∃ S, G1.regs[q]? = some S := ⟨_, List.getElem?_eq_getElem (by rw [HGE.out.1]; exact hqi)⟩
          have hrl : rl G1.regs q = S.l := by unfold rl; rw [List.getD_eq_getElem?_getD, hS]; rfl
          obtain ⟨ks, hks⟩ : ∃ ks, ks = (bn.take j).foldl (fun ks j => layK j ks (rl G1.regs j)) [] := ⟨_, rfl⟩
          rw [← hks] at H2
          have HFS : Hid ((bn.take (j + 1)).foldl (fun ks j => layK j ks (rl G1.regs j)) [] = layK q ks S.l) := by
            show _ = _
            rw [List.take_add_one, hq, Option.toList, List.foldl_append, ← hks, List.foldl_cons, List.foldl_nil, hrl]
          obtain ⟨vs, e0, e1', hsl⟩ := H2.out.1.rowCell HRR.out q S hS
          obtain ⟨Ai, ci, rfl, hnci, hrdi, _⟩ := hsl
          have hmax := (HL1.out.ok.small S (List.mem_of_getElem? hS)).1
          have d3 := H2.out.1.box.cell 3
          simp at d3
          rw [HRR.out, HTL.out.1] at d3
          have hlen3 : (Lg.bare D first i).regs.length = i := opRegs_len _ _ _
          rw [hlen3] at d3
          obtain ⟨gb, ob, eb, hgb, hcb⟩ := (show Rd wr tInt1 Ab (nb * 1) (ints bn) by rw [Nat.mul_one]; exact H2.out.2.2.1).at_ (j := j) (by omega)
          subst eb
          have cb0 := hcb j _ (ints_get hq)
          obtain ⟨l, hll⟩ : ∃ l, l = S.l := ⟨_, rfl⟩
          rw [← hll] at e1' hnci hrdi hmax HFS
          have HLS : Hid (∀ (k : Nat) (x : Item), l[k]? = some x → S.l[k]? = some x) := fun k x hx => by rw [← hll]; exact hx
          obtain ⟨nl, hnl⟩ : ∃ nl, nl = l.length := ⟨_, rfl⟩
          rw [← hnl] at e1' hnci hmax
          have HNL := Lib.hid hnl
          have hqii : (q : Int) < (i : Int) := by omega
          have hji : (j : Int) < (nb : Int) := by omega
          have HSS := Lib.hid hS
          have hlay := layT_all q ks l
          rw [← hnl] at hlay
          have HLAY := Lib.hid hlay
          obtain ⟨wo, rfl⟩ : ∃ wo : World, wo = wr := ⟨_, rfl⟩
          have HRI : Hid (Rd wo tItem Ai (l.length * 5) (its l)) := hrdi
          clear hq hqi hS hrl hks e0 hrdi hlen3 hcb hll hnl hlay
          go_wp2
          go_loopg [84] nl (fun gk vi wz => ∃ k : Nat, gk = nl - k ∧ k ≤ nl ∧ vi = .int .i64 k ∧
            Hid (LgAt wz h t1 { G1 with keys := layT q ks l k } ∧ DevN N wz h D ∧ Rd wz tInt1 (some ⟨gb, ob, none⟩) nb (ints bn) ∧ Chg h.foot w wz ∧ Rd wz tItem Ai (l.length * 5) (its l)))
          case atStart => exact ⟨0, rfl, Nat.zero_le _, rfl, H2.out.1, H2.out.2.1, H2.out.2.2.1, H2.out.2.2.2, HRI.out⟩
          case round =>
            obtain ⟨k, rfl, hk, rfl, K⟩ := hrel
            by_cases hkl : k < nl
            · obtain ⟨x, hx⟩ : ∃ x, l[k]? = some x := ⟨_, List.getElem?_eq_getElem (by rw [← HNL.out]; exact hkl)⟩
              have hsucc := layT_succ q ks hx
              obtain ⟨kk, hkk⟩ : ∃ kk, layT q ks l k = kk := ⟨_, rfl⟩
              rw [hkk] at K hsucc
              obtain ⟨g, off, c', he', hg, c0, c1, c2, c3, c4⟩ := SlAt.item (w := wr) (t := ⟨0, 0, .slice none 0 0, .slice none 0 0, fun _ => True⟩) (v := .slice Ai l.length ci) ⟨Ai, ci, rfl, by rw [← HNL.out]; exact hnci, K.out.2.2.2.2, fun _ _ _ _ => ⟨trivial, by simp [Value.ownBlock]⟩⟩ hx
              obtain ⟨ea, _, _⟩ : Ai = some ⟨g, off, none⟩ ∧ True ∧ True := by injection he' with e1 e2 e3; exact ⟨e1, trivial, trivial⟩
              subst ea
              have hki : (k : Int) < (nl : Int) := by omega
              have HSUC := Lib.hid hsucc
              have HX := Lib.hid hx
              clear hsucc hkk hx he'
              go_wp2_with fail
              refine wp_forget (fun W => Chg No wr W ∧ Blk W wr.heap.size tItem (itc x).toArray) ⟨by (repeat (first | (with_reducible exact Chg.refl _ _) | (with_reducible assumption) | (with_reducible refine Chg.drewN ?_ _) | (with_reducible refine Chg.drew ?_) | (with_reducible refine Chg.alloc ?_ _) | (with_reducible refine Chg.setCell ?_ (by first | (left; simp [DevH.foot]; done) | (right; simp; done) | (right; simp; omega)) _))), Blk.new _ _ _⟩ (fun W hW => ?_)
              obtain ⟨hcW, hbW⟩ := hW
              obtain ⟨ga, hga⟩ : ∃ ga, wr.heap.size = ga := ⟨_, rfl⟩
              rw [hga] at hbW ⊢
              have hlW := K.out.1.chgNo (hcW.drew)
              have d7 := hlW.box.cell 7
              simp at d7
              rw [HTL.out.1] at d7
              have a0 := hbW.cell 0
              simp [itc] at a0
              obtain ⟨o, hrun, hmap⟩ := hlW.map.update (P := Try.prog) (keyLaw_string (Try.underlying9)) Try.underlying106 x.key (plv ⟨false, q, k⟩)
              rw [aset_amap] at hmap
              simp only [plv] at hrun
              have hok : ({ G1 with keys := aset kk x.key ⟨false, q, k⟩ } : Lg).Ok := hlW.ok.lay (q := q) (k := k) (S := S) (x := x) HSS.out (HLS.out k x HX.out)
              have hcM : Chg (fun k => k = t1.M) W.drew (setBlock W.drew t1.M o) := chg_setBlock _ _ _
              have HN1 := Lib.hid (And.intro (hlW.rekey hcM hmap hok) hcM)
              have HLW := Lib.hid hlW
              have HCW := Lib.hid hcW
              clear hlW hcW hbW hga hmap hok hcM c0 c1 c2 c3 c4
              go_region
              all_goals
                go_wp2
                go_roundg (nl - (k + 1))
                case measure => omega
                case rel =>
                  refine ⟨k + 1, rfl, by omega, by go_num, ?_⟩
                  rw [HSUC.out]
                  refine ⟨HN1.out.1, dev_map ((K.out.2.1.chgNo HCW.out).chgNo ((Chg.refl _ _).drew)) HLW.out.map HLW.out.far HN1.out.2, ?_, ?_, ?_⟩
                  · exact (K.out.2.2.1.chg (HCW.out.drew) (fun _ _ _ _ h => h)).chg HN1.out.2 (fun g cur fz hg e => HLW.out.map.ne_blk hg e.symm)
                  · exact (K.out.2.2.2.1.then (HCW.out.drew) (fun _ _ h => h.elim)).then HN1.out.2 (fun p hp e => by have := HTL.out.2.1; omega)
                  · exact (K.out.2.2.2.2.chg (HCW.out.drew) (fun _ _ _ _ h => h)).chg HN1.out.2 (fun g cur fz hg e => HLW.out.map.ne_blk hg e.symm)
            · obtain rfl : k = nl := by omega
              rw [HLAY.out, ← HFS.out] at K
              clear hkl
              go_wp2
              go_roundg (nb - (j + 1))
              case measure => omega
              case rel => exact ⟨j + 1, rfl, by omega, by go_num, K.out.1, K.out.2.1, K.out.2.2.1, K.out.2.2.2.1⟩
        · obtain rfl : j = nb := by omega
          rw [List.take_of_length_le (by rw [← HNB.out]; exact Nat.le_refl _), ← HOPK.out] at H2
          clear hjl
          go_wp2
          go_ret2
          exact ⟨t1, by rw [HTL.out.1]; rfl, H2.out.1, H2.out.2.1, HTL.out.2.2.2, H2.out.2.2.2⟩
end
end Go.Proofs.Ytcmobcbecbajiaa
