/- Package bill: sum. -/
import Derived.Test.YtkfmmiekajgdjaaGreatVd43
import Derived.Test.YtkfmmiekajgdjaaGreatWr43
namespace Go.Proofs.YtkfmmiekajgdjaaGreat
open Go.RowKit
attribute [local go_sem] Oper.semAt_some

def mostN (l : List Art) : Int := l.foldl (fun m a => if a.k = 5 then (if m < 0 ∨ a.p < m then a.p else m) else m) (-1)
theorem mostN_take {l : List Art} {k : Nat} (h : k < l.length) : mostN (l.take (k + 1)) = if (getArt l k).k = 5 then (if mostN (l.take k) < 0 ∨ (getArt l k).p < mostN (l.take k) then (getArt l k).p else mostN (l.take k)) else mostN (l.take k) := by
  rw [take_art h]
  unfold mostN
  rw [List.foldl_append]
  rfl
theorem mostN_cap {l : List Art} (hl : ∀ k, k < l.length → artA (getArt l k) = true) (n : Int) : ∀ k, k ≤ l.length → -1 ≤ mostN (l.take k) ∧ mostN (l.take k) ≤ 1000000 ∧ capA (l.take k) n = if 0 ≤ mostN (l.take k) then min n (mostN (l.take k)) else n
  | 0, _ => by simp [mostN, capA]
  | k + 1, h => by
    have ih := mostN_cap hl n k (by omega)
    have ha := art_price (hl k (by omega))
    rw [mostN_take (by omega), capA_take (by omega)]
    split
    · rw [ih.2.2]
      exact ⟨by split <;> omega, by split <;> omega, by (repeat' split) <;> omega⟩
    · exact ih
def netB (c : ClA) (s : SesA) : Int := capA c.arts (sumL (linA c s c.arts.length))
def taxB (c : ClA) (s : SesA) : Int := taxOf (netB c s) (rateN c.arts)
def sumOk (c : ClA) (s : SesA) : Bool := linOk c s && addOk (netB c s) (rateN c.arts)
theorem TwosS.mono {S S' : List Nat} {w : World} {o : Option Addr} {l : List (Int × Int)} (h : TwosS S w o l) (hs : ∀ b ∈ S', b ∈ S) : TwosS S' w o l := fun i hi => by
  obtain ⟨b, off, h1, h2, h3⟩ := h i hi
  exact ⟨b, off, h1, fun hb => h2 (hs b hb), h3⟩
/-- A slice of pairs that lies apart from all blocks below n. -/
def TwosN (n : Nat) (w : World) (o : Option Addr) (l : List (Int × Int)) : Prop := ∀ S : List Nat, (∀ b ∈ S, b < n) → TwosS S w o l
theorem TwosN.twos {n : Nat} {w : World} {o : Option Addr} {l : List (Int × Int)} (h : TwosN n w o l) : Twos w o l := (h [] (fun b hb => by cases hb)).twos
theorem TwosN.agr {n m : Nat} {w w' : World} {o : Option Addr} {l : List (Int × Int)} {S : List Nat} (h : TwosN n w o l) (ha : Agr w w' S) (hS : ∀ b ∈ S, b < n) (hm : m ≤ n) : TwosN m w' o l := fun S' hS' =>
  ((h (S ++ S') (fun b hb => by rcases List.mem_append.1 hb with hb | hb; exact hS b hb; exact Nat.lt_of_lt_of_le (hS' b hb) hm)).agr ha (fun b hb => List.mem_append_left _ hb)).mono (fun b hb => List.mem_append_right _ hb)
theorem TwosN.later {n : Nat} {w w' : World} {o : Option Addr} {l : List (Int × Int)} (h : TwosN n w o l) (hb : Below w.heap.size w w') : TwosN n w' o l := fun S hS => (h S hS).later hb
/-- What sum leaves: a bill, or the panic. -/
def SumOut (c : ClA) (s : SesA) (w : World) (e : Ending) (w' : World) : Prop := Below w.heap.size w w' ∧
  ((sumOk c s = true ∧ ∃ o cap, e = .returned (.agg #[.slice o (linA c s c.arts.length).length cap, .int .i64 (netB c s), .int .i64 (taxB c s), .int .i64 (netB c s + taxB c s)]) ∧ TwosN w.heap.size w' o (linA c s c.arts.length)) ∨ (sumOk c s = false ∧ e = .panicked [billP 3]))
theorem sum_yes {c : ClA} {s : SesA} {w w' : World} {o : Option Addr} {n cap : Nat} {net tax tot : Int} (hb : Below w.heap.size w w') (h : sumOk c s = true) (ht : TwosN w.heap.size w' o (linA c s c.arts.length)) (h0 : n = (linA c s c.arts.length).length) (h1 : net = netB c s) (h2 : tax = taxB c s) (h3 : tot = netB c s + taxB c s) : SumOut c s w (.returned (.agg #[.slice o n cap, .int .i64 net, .int .i64 tax, .int .i64 tot])) w' := by
  subst h0 h1 h2 h3
  exact ⟨hb, .inl ⟨h, o, cap, rfl, ht⟩⟩
theorem sum_no {c : ClA} {s : SesA} {w w' : World} (hb : Below w.heap.size w w') (h : sumOk c s = false) : SumOut c s w (.panicked [billP 3]) w' := ⟨hb, .inr ⟨h, rfl⟩⟩

set_option maxRecDepth 100000 in
set_option maxHeartbeats 32000000 in
theorem sum_any (w : World) (c : ClA) (s : SesA) (hA : Arts w c.oa c.arts) (hC : CalM w c) (hS : Twos w s.o s.l) (ht : tarA c.nm c.arts = true) (hd : datA c.off c.chg c.hol = true) (hs : SesOk s) : Calls Tryz.prog 42 #[.agg #[.string c.nm, .slice c.oa c.arts.length c.ca], .agg #[.int .i64 c.off, .slice c.oc c.chg.length c.cc, .slice c.oh c.hol.length c.ch], .agg #[.int .i64 s.f, .int .i64 s.t, .int .i64 s.e, .slice s.o s.l.length s.cap]] w (SumOut c s w) := by
  have HA := Lib.hid hA
  have HC := Lib.hid hC
  have HS := Lib.hid hS
  have HSO := Lib.hid hs
  have HTF := Lib.hid (tar_facts ht)
  have HDT := Lib.hid hd
  have h12 : c.arts.length ≤ 12 := HTF.out.1
  clear hA hC hS ht hd hs
  have HY := Lib.hid (fun (w' : World) (o : Option Addr) (n cap : Nat) (net tax tot : Int) hb h ht h0 h1 h2 h3 => sum_yes (c := c) (s := s) (w := w) (w' := w') (o := o) (n := n) (cap := cap) (net := net) (tax := tax) (tot := tot) hb h ht h0 h1 h2 h3)
  have HN := Lib.hid (fun (w' : World) hb h => sum_no (c := c) (s := s) (w := w) (w' := w') hb h)
  have HSK := Lib.hid (show sumOk c s = (linOk c s && addOk (netB c s) (rateN c.arts)) from rfl)
  obtain ⟨OUT, hO⟩ : ∃ O, SumOut c s w = O := ⟨_, rfl⟩
  rw [hO] at HY HN ⊢
  clear hO
  go_enter Tryz.func42, Tryz.ntmps42
  go_upto_region 2 with (fail)
  obtain ⟨wa, hwa⟩ : ∃ W, W = w.alloc (.cells #[.string c.nm, .slice c.oa c.arts.length c.ca] 24) := ⟨_, rfl⟩
  obtain ⟨wb, hwb⟩ : ∃ W, W = wa.alloc (.cells #[.int .i64 c.off, .slice c.oc c.chg.length c.cc, .slice c.oh c.hol.length c.ch] 28) := ⟨_, rfl⟩
  obtain ⟨wc, hwc⟩ : ∃ W, W = wb.alloc (.cells #[.int .i64 s.f, .int .i64 s.t, .int .i64 s.e, .slice s.o s.l.length s.cap] 35) := ⟨_, rfl⟩
  obtain ⟨w2, hw2⟩ : ∃ W, W = wc.alloc (.cells #[.slice none 0 0, .int .i64 0, .int .i64 0, .int .i64 0] 39) := ⟨_, rfl⟩
  obtain ⟨W1, hW1⟩ : ∃ W, W = w2.alloc (.cells #[.slice none 0 0, .int .i64 0, .int .i64 0, .int .i64 0] 39) := ⟨_, rfl⟩
  have hsa : wa.heap.size = w.heap.size + 1 := by rw [hwa, World.size_alloc]
  have hsb : wb.heap.size = w.heap.size + 1 + 1 := by rw [hwb, World.size_alloc, hsa]
  have hsc : wc.heap.size = w.heap.size + 1 + 2 := by rw [hwc, World.size_alloc, hsb]
  have hs2 : w2.heap.size = w.heap.size + 1 + 3 := by rw [hw2, World.size_alloc, hsc]
  have HQ0 := Lib.hid (show Blk w2 w.heap.size 24 #[.string c.nm, .slice c.oa c.arts.length c.ca] by rw [hw2, hwc, hwb]; refine Blk.alloc (Blk.alloc (Blk.alloc ?_ _) _) _; rw [hwa]; exact Blk.new _ _ _)
  have HQ1 := Lib.hid (show Blk w2 (w.heap.size + 1) 28 #[.int .i64 c.off, .slice c.oc c.chg.length c.cc, .slice c.oh c.hol.length c.ch] by rw [hw2, hwc]; refine Blk.alloc (Blk.alloc ?_ _) _; rw [hwb, ← hsa]; exact Blk.new _ _ _)
  have HQ2 := Lib.hid (show Blk w2 (w.heap.size + 1 + 1) 35 #[.int .i64 s.f, .int .i64 s.t, .int .i64 s.e, .slice s.o s.l.length s.cap] by rw [hw2]; refine Blk.alloc ?_ _; rw [hwc, ← hsb]; exact Blk.new _ _ _)
  have HR := Lib.hid (show Blk w2 (w.heap.size + 1 + 2) 39 #[.slice none 0 0, .int .i64 0, .int .i64 0, .int .i64 0] by rw [hw2, ← hsc]; exact Blk.new _ _ _)
  have HB2 := Lib.hid (show Below w.heap.size w w2 by rw [hw2, hwc, hwb, hwa]; exact below_alloc (below_alloc (below_alloc (below_alloc (Below.refl _ _) _) _) _) _)
  have HG1 := Lib.hid (show Grow w2 W1 119 2 39 #[.slice none 0 0, .int .i64 0, .int .i64 0, .int .i64 0] (.slice none 0 0) 0 [] by rw [hW1]; exact Grow.new ..)
  have hSW : W1 = ((((w.alloc (.cells #[.string c.nm, .slice c.oa c.arts.length c.ca] 24)).alloc (.cells #[.int .i64 c.off, .slice c.oc c.chg.length c.cc, .slice c.oh c.hol.length c.ch] 28)).alloc (.cells #[.int .i64 s.f, .int .i64 s.t, .int .i64 s.e, .slice s.o s.l.length s.cap] 35)).alloc (.cells #[.slice none 0 0, .int .i64 0, .int .i64 0, .int .i64 0] 39)).alloc (.cells #[.slice none 0 0, .int .i64 0, .int .i64 0, .int .i64 0] 39) := by rw [hW1, hw2, hwc, hwb, hwa]
  obtain ⟨B, hB⟩ : ∃ B, B = w.heap.size + 1 + 3 := ⟨_, rfl⟩
  obtain ⟨R, hR⟩ : ∃ R, R = w.heap.size + 1 + 2 := ⟨_, rfl⟩
  obtain ⟨Q2, hQ2⟩ : ∃ R, R = w.heap.size + 1 + 1 := ⟨_, rfl⟩
  obtain ⟨Q1, hQ1⟩ : ∃ R, R = w.heap.size + 1 := ⟨_, rfl⟩
  obtain ⟨Q0, hQ0⟩ : ∃ R, R = w.heap.size := ⟨_, rfl⟩
  have HBB := Lib.hid (show w2.heap.size = B ∧ B = R + 1 ∧ R = Q2 + 1 ∧ Q2 = Q1 + 1 ∧ Q1 = Q0 + 1 ∧ Q0 = w.heap.size by omega)
  rw [← hSW]
  rw [← hB]
  rw [← hR] at HR ⊢
  rw [← hQ2] at HQ2 ⊢
  rw [← hQ1] at HQ1 ⊢
  rw [← hQ0] at HQ0 ⊢
  clear hB hR hQ2 hQ1 hQ0 hSW hW1 hw2 hwc hwb hwa hsa hsb hsc hs2
  replace HA := Lib.hid (HA.out.later HB2.out)
  replace HC := Lib.hid (HC.out.later HB2.out)
  replace HS := Lib.hid (HS.out.later HB2.out)
  have q1 : W1.cell? ⟨Q0, 1, none⟩ = some (.slice c.oa c.arts.length c.ca) := cell_kept HG1.out.below (HQ0.out.cell 1)
  go_wp2
  clear q1
  go_loopw [8, 9, 17] (fun r m i wr => ∃ (k : Nat) (ol : Option Addr) (cl : Nat), k ≤ c.arts.length ∧ i = .int .i64 k ∧ r = .int .i64 (rateN (c.arts.take k)) ∧ m = .int .i64 (mostN (c.arts.take k)) ∧ Grow w2 wr 119 2 39 #[.slice ol (linA c s k).length cl, .int .i64 (sumL (linA c s k)), .int .i64 0, .int .i64 0] (.slice ol (linA c s k).length cl) (linA c s k).length (flatT (linA c s k)) ∧ (∀ x ∈ linA c s k, 0 ≤ x.2 ∧ x.2 ≤ 1000000000)) (fun _ _ i _ => c.arts.length - (intOf i).toNat)
  case atStart => exact ⟨0, none, 0, Nat.zero_le _, rfl, rfl, rfl, HG1.out, fun x hx => by cases hx⟩
  case round =>
    obtain ⟨k, ol, cl, hk, rfl, rfl, rfl, hgr, hall⟩ := hrel
    obtain ⟨wA, rfl⟩ : ∃ wA : World, wA = wr := ⟨_, rfl⟩
    have HG := Lib.hid hgr
    have HALL := Lib.hid hall
    clear hgr hall HG1
    have HLS := Lib.hid (show linA c s (k + 1) = if (getArt c.arts k).k = 5 ∨ (getArt c.arts k).k = 6 then linA c s k else linA c s k ++ [((k : Int), costA (getArt c.arts k) c s)] from rfl)
    have hll := linA_len c s k
    have HSB := Lib.hid (sumL_bound HALL.out _ (Nat.le_refl _))
    rw [List.take_length] at HSB
    have HMC := Lib.hid (fun n => mostN_cap HTF.out.2 n k hk)
    have HRB := Lib.hid (rateN_bound HTF.out.2 k hk)
    by_cases hlt : k < c.arts.length
    · have HMT := Lib.hid (mostN_take hlt)
      have HRT := Lib.hid (rateN_take hlt)
      have HBAD := Lib.hid (fun h5 x hx e => lin_bad (s := s) (x := x) hlt h5 hx e)
      have HAA := Lib.hid (HTF.out.2 k hlt)
      obtain ⟨L, hL⟩ : ∃ L, linA c s k = L := ⟨_, rfl⟩
      rw [hL] at HG HALL HLS hll HSB
      clear hL
      obtain ⟨m, hm⟩ : ∃ m, mostN (c.arts.take k) = m := ⟨_, rfl⟩
      rw [hm] at HMC HMT ⊢
      clear hm
      obtain ⟨r, hr⟩ : ∃ m, rateN (c.arts.take k) = m := ⟨_, rfl⟩
      rw [hr] at HRT ⊢
      clear hr
      obtain ⟨ga, fa, hgo, a0, a1, a2, a3, a4, a5, a6⟩ := (HA.out.later HG.out.below) k hlt
      obtain ⟨a, ha⟩ : ∃ a, getArt c.arts k = a := ⟨_, rfl⟩
      rw [ha] at a0 a1 a2 a3 a4 a5 a6 HLS HBAD HAA HMT HRT
      clear ha
      rw [hgo]
      have y1 : (0 : Int) ≤ (k : Int) := by omega
      have y2 : (k : Int) < (c.arts.length : Int) := by omega
      go_upto_region 6 with (fail)
      obtain ⟨W3, hW3⟩ : ∃ W1, W1 = wA.alloc (.cells #[.int .i64 a.k, .int .i64 a.d, .int .i64 a.f, .int .i64 a.t, .int .i64 a.p, .int .i64 a.u, .int .i64 a.r] 72) := ⟨_, rfl⟩
      have HQ := Lib.hid (show Blk W3 wA.heap.size 72 #[.int .i64 a.k, .int .i64 a.d, .int .i64 a.f, .int .i64 a.t, .int .i64 a.p, .int .i64 a.u, .int .i64 a.r] by rw [hW3]; exact Blk.new _ _ _)
      replace HG := Lib.hid (show Grow w2 W3 _ _ _ _ _ _ _ by rw [hW3]; exact HG.out.alloc _)
      try rw [← hW3]
      clear hW3 a0 a1 a2 a3 a4 a5 a6
      obtain ⟨Q, hQ⟩ : ∃ B, wA.heap.size = B := ⟨_, rfl⟩
      rw [hQ] at HQ ⊢
      clear hQ
      have a0 : W3.cell? ⟨Q, 0, none⟩ = some (.int .i64 a.k) := HQ.out.cell 0
      have a1 : W3.cell? ⟨Q, 1, none⟩ = some (.int .i64 a.d) := HQ.out.cell 1
      have a2 : W3.cell? ⟨Q, 2, none⟩ = some (.int .i64 a.f) := HQ.out.cell 2
      have a3 : W3.cell? ⟨Q, 3, none⟩ = some (.int .i64 a.t) := HQ.out.cell 3
      have a4 : W3.cell? ⟨Q, 4, none⟩ = some (.int .i64 a.p) := HQ.out.cell 4
      have a5 : W3.cell? ⟨Q, 5, none⟩ = some (.int .i64 a.u) := HQ.out.cell 5
      have a6 : W3.cell? ⟨Q, 6, none⟩ = some (.int .i64 a.r) := HQ.out.cell 6
      by_cases h5 : a.k = 5
      · have d5 : (a.k == 5) = true := by simpa using h5
        have HL2 := Lib.hid (show linA c s (k + 1) = L by rw [HLS.out, if_pos (Or.inl h5)])
        have HR2 := Lib.hid (show rateN (c.arts.take (k + 1)) = r by rw [HRT.out, if_neg (by omega)])
        replace HMT := Lib.hid (show mostN (c.arts.take (k + 1)) = if m < 0 ∨ a.p < m then a.p else m by rw [HMT.out, if_pos h5])
        clear h5
        by_cases k1 : m < 0
        · have d1 : decide (m < 0) = true := decide_eq_true k1
          have HM2 := Lib.hid (show mostN (c.arts.take (k + 1)) = a.p by rw [HMT.out, if_pos (Or.inl k1)])
          clear k1
          go_wp2
          go_roundw
          case rel => exact ⟨k + 1, ol, cl, hlt, by go_num, by rw [HR2.out], by rw [HM2.out], by rw [HL2.out]; exact HG.out, by rw [HL2.out]; exact HALL.out⟩
          case measure => simp [intOf]; omega
        have d1 : decide (m < 0) = false := decide_eq_false k1
        by_cases k2 : a.p < m
        · have d2 : decide (a.p < m) = true := decide_eq_true k2
          have HM2 := Lib.hid (show mostN (c.arts.take (k + 1)) = a.p by rw [HMT.out, if_pos (Or.inr k2)])
          clear k1 k2
          go_wp2
          go_roundw
          case rel => exact ⟨k + 1, ol, cl, hlt, by go_num, by rw [HR2.out], by rw [HM2.out], by rw [HL2.out]; exact HG.out, by rw [HL2.out]; exact HALL.out⟩
          case measure => simp [intOf]; omega
        · have d2 : decide (a.p < m) = false := decide_eq_false k2
          have HM2 := Lib.hid (show mostN (c.arts.take (k + 1)) = m by rw [HMT.out, if_neg (by omega)])
          clear k1 k2
          go_wp2
          go_roundw
          case rel => exact ⟨k + 1, ol, cl, hlt, by go_num, by rw [HR2.out], by rw [HM2.out], by rw [HL2.out]; exact HG.out, by rw [HL2.out]; exact HALL.out⟩
          case measure => simp [intOf]; omega
      have d5 : (a.k == 5) = false := by simpa using h5
      have HM2 := Lib.hid (show mostN (c.arts.take (k + 1)) = m by rw [HMT.out, if_neg h5])
      by_cases h6 : a.k = 6
      · have d6 : (a.k == 6) = true := by simpa using h6
        have HL2 := Lib.hid (show linA c s (k + 1) = L by rw [HLS.out, if_pos (Or.inr h6)])
        have HR2 := Lib.hid (show rateN (c.arts.take (k + 1)) = a.p by rw [HRT.out, if_pos h6])
        clear h6 h5
        go_wp2
        go_roundw
        case rel => exact ⟨k + 1, ol, cl, hlt, by go_num, by rw [HR2.out], by rw [HM2.out], by rw [HL2.out]; exact HG.out, by rw [HL2.out]; exact HALL.out⟩
        case measure => simp [intOf]; omega
      have d6 : (a.k == 6) = false := by simpa using h6
      have HR2 := Lib.hid (show rateN (c.arts.take (k + 1)) = r by rw [HRT.out, if_neg h6])
      have hno : ¬ (a.k = 5 ∨ a.k = 6) := fun h => h.elim h5 h6
      have HL2 := Lib.hid (show linA c s (k + 1) = L ++ [((k : Int), costA a c s)] by rw [HLS.out, if_neg hno])
      replace HBAD := Lib.hid (fun e => HBAD.out hno (costA a c s) rfl e)
      have HCB := Lib.hid (costA_bound (c := c) HAA.out HSO.out)
      have HKK := Lib.hid (show a.k = 1 ∨ a.k = 2 ∨ a.k = 3 ∨ a.k = 4 by
        have := HAA.out
        unfold artA headB insB at this
        simp only [Bool.and_eq_true, decide_eq_true_eq] at this
        omega)
      clear h5 h6 hno HLS HMT HRT
      have HGB := Lib.hid HG.out.below
      have b0 : W3.cell? ⟨Q1, 0, none⟩ = some (.int .i64 c.off) := cell_kept HGB.out (HQ1.out.cell 0)
      have b1 : W3.cell? ⟨Q1, 1, none⟩ = some (.slice c.oc c.chg.length c.cc) := cell_kept HGB.out (HQ1.out.cell 1)
      have b2 : W3.cell? ⟨Q1, 2, none⟩ = some (.slice c.oh c.hol.length c.ch) := cell_kept HGB.out (HQ1.out.cell 2)
      have s0 : W3.cell? ⟨Q2, 0, none⟩ = some (.int .i64 s.f) := cell_kept HGB.out (HQ2.out.cell 0)
      have s1 : W3.cell? ⟨Q2, 1, none⟩ = some (.int .i64 s.t) := cell_kept HGB.out (HQ2.out.cell 1)
      have s2 : W3.cell? ⟨Q2, 2, none⟩ = some (.int .i64 s.e) := cell_kept HGB.out (HQ2.out.cell 2)
      have s3 : W3.cell? ⟨Q2, 3, none⟩ = some (.slice s.o s.l.length s.cap) := cell_kept HGB.out (HQ2.out.cell 3)
      go_upto_region 8 with (fail)
      clear a0 a1 a2 a3 a4 a5 a6 b0 b1 b2 s0 s1 s2 s3 d5 d6
      obtain ⟨W4, hW4⟩ : ∃ W1, W1 = W3.alloc (.cells (bilL a c s).toArray 148) := ⟨_, rfl⟩
      have HM := Lib.hid (show BilM W4 W3.heap.size a c s by rw [hW4]; exact ⟨(HC.out.later HGB.out).later (below_alloc (Below.refl _ _) _), (HS.out.later HGB.out).later (below_alloc (Below.refl _ _) _), Blk.new _ _ _⟩)
      replace HG := Lib.hid (show Grow w2 W4 _ _ _ _ _ _ _ by rw [hW4]; exact HG.out.alloc _)
      show Code.wp _ _ _ _ (W3.alloc (.cells (bilL a c s).toArray 148))
      try rw [← hW4]
      clear hW4 HGB
      obtain ⟨g, hg⟩ : ∃ B, W3.heap.size = B := ⟨_, rfl⟩
      rw [hg] at HM
      try rw [hg]
      clear hg
      have HGB4 := Lib.hid HG.out.below
      obtain ⟨V, hV⟩ : ∃ V, costA a c s = V := ⟨_, rfl⟩
      have HV := Lib.hid hV
      rw [hV] at HL2 HBAD HCB
      clear hV
      have hk12 : k + 1 ≤ 12 := by omega
      go_cut [13] from 29 to 31 (fun v wx => v = .int .i64 V ∧ V ≤ 1000000000 ∧ Below W4.heap.size W4 wx)
      case first =>
        have m0 : W4.cell? ⟨g, 0, none⟩ = some (.int .i64 a.k) := HM.out.blk.cell 0
        rcases HKK.out with hk1 | hk1 | hk1 | hk1
        · have HCO := Lib.hid (start_any W4 g a c s HM.out HAA.out HDT.out HSO.out)
          have HVV := Lib.hid (HV.out)
          unfold costA at HVV
          rw [if_pos hk1] at HVV
          rw [HVV.out] at HCO
          have HCA := Lib.hid (costs_at W4 g a.k 85 m0 (by exact .inl ⟨hk1, rfl⟩))
          clear hk1 HVV
          go_wp2_with fail
          refine HCA.out.mono ?_
          rintro _ _ ⟨rfl, rfl⟩
          go_wp2_with fail
          refine HCO.out.mono ?_
          rintro e w5 ⟨hb, ⟨hv, rfl⟩ | ⟨hv, rfl⟩⟩
          · have HB5 := Lib.hid hb
            clear hb HCO HCA m0
            go_wp2
            go_meet
            case rel => exact ⟨rfl, hv, HB5.out⟩
          · have HB5 := Lib.hid (below_step HB2.out (below_step HGB4.out hb))
            have HNO := Lib.hid (HBAD.out (decide_eq_false (by omega)))
            clear hb hv HCO HCA m0
            go_wp2
            exact ⟨rfl, HN.out _ HB5.out (by rw [HSK.out, HNO.out]; rfl)⟩
        · have HCO := Lib.hid (energyB_any W4 g a c s HM.out HAA.out HDT.out HSO.out)
          have HVV := Lib.hid (HV.out)
          unfold costA at HVV
          rw [if_neg (by omega), if_pos hk1] at HVV
          rw [HVV.out] at HCO
          have HCA := Lib.hid (costs_at W4 g a.k 86 m0 (by exact .inr (.inl ⟨hk1, rfl⟩)))
          clear hk1 HVV
          go_wp2_with fail
          refine HCA.out.mono ?_
          rintro _ _ ⟨rfl, rfl⟩
          go_wp2_with fail
          refine HCO.out.mono ?_
          rintro e w5 ⟨hb, ⟨hv, rfl⟩ | ⟨hv, rfl⟩⟩
          · have HB5 := Lib.hid hb
            clear hb HCO HCA m0
            go_wp2
            go_meet
            case rel => exact ⟨rfl, hv, HB5.out⟩
          · have HB5 := Lib.hid (below_step HB2.out (below_step HGB4.out hb))
            have HNO := Lib.hid (HBAD.out (decide_eq_false (by omega)))
            clear hb hv HCO HCA m0
            go_wp2
            exact ⟨rfl, HN.out _ HB5.out (by rw [HSK.out, HNO.out]; rfl)⟩
        · have HCO := Lib.hid (time_any W4 g a c s HM.out HAA.out hk1 HDT.out HSO.out)
          have HVV := Lib.hid (HV.out)
          unfold costA at HVV
          rw [if_neg (by omega), if_neg (by omega), if_pos hk1] at HVV
          rw [HVV.out] at HCO
          have HCA := Lib.hid (costs_at W4 g a.k 87 m0 (by exact .inr (.inr (.inl ⟨hk1, rfl⟩))))
          clear hk1 HVV
          go_wp2_with fail
          refine HCA.out.mono ?_
          rintro _ _ ⟨rfl, rfl⟩
          go_wp2_with fail
          refine HCO.out.mono ?_
          rintro e w5 ⟨hb, ⟨hv, rfl⟩ | ⟨hv, rfl⟩⟩
          · have HB5 := Lib.hid hb
            clear hb HCO HCA m0
            go_wp2
            go_meet
            case rel => exact ⟨rfl, hv, HB5.out⟩
          · have HB5 := Lib.hid (below_step HB2.out (below_step HGB4.out hb))
            have HNO := Lib.hid (HBAD.out (decide_eq_false (by omega)))
            clear hb hv HCO HCA m0
            go_wp2
            exact ⟨rfl, HN.out _ HB5.out (by rw [HSK.out, HNO.out]; rfl)⟩
        · have HCO := Lib.hid (idle_any W4 g a c s HM.out HAA.out hk1 HDT.out HSO.out)
          have HVV := Lib.hid (HV.out)
          unfold costA at HVV
          rw [if_neg (by omega), if_neg (by omega), if_neg (by omega), if_pos hk1] at HVV
          rw [HVV.out] at HCO
          have HCA := Lib.hid (costs_at W4 g a.k 88 m0 (by exact .inr (.inr (.inr ⟨hk1, rfl⟩))))
          clear hk1 HVV
          go_wp2_with fail
          refine HCA.out.mono ?_
          rintro _ _ ⟨rfl, rfl⟩
          go_wp2_with fail
          refine HCO.out.mono ?_
          rintro e w5 ⟨hb, ⟨hv, rfl⟩ | ⟨hv, rfl⟩⟩
          · have HB5 := Lib.hid hb
            clear hb HCO HCA m0
            go_wp2
            go_meet
            case rel => exact ⟨rfl, hv, HB5.out⟩
          · have HB5 := Lib.hid (below_step HB2.out (below_step HGB4.out hb))
            have HNO := Lib.hid (HBAD.out (decide_eq_false (by omega)))
            clear hb hv HCO HCA m0
            go_wp2
            exact ⟨rfl, HN.out _ HB5.out (by rw [HSK.out, HNO.out]; rfl)⟩
      case rest =>
        obtain ⟨rfl, hv, hbx⟩ := hcut
        replace HG := Lib.hid (HG.out.later hbx)
        clear hbx HM HBAD
        have c0 : wc.cell? ⟨B, 0, none⟩ = some (.slice ol L.length cl) := by rw [← HBB.out.1]; exact HG.out.blk.cell 0
        go_wp2_with (at_builtin; refine wp_append1G (news := [.int .i64 (k : Int), .int .i64 V]) elemL HG.out (by omega) (by decide) rfl (oneI2 _ _) rfl _ _ rfl rfl rfl rfl ?_)
        intro v2 w5 hg5
        obtain ⟨o2, cp2, hv2, _⟩ := hg5.row.shape
        subst hv2
        have HG5 := Lib.hid (hg5.cast rfl rfl (show flatT L ++ [.int .i64 (k : Int), .int .i64 V] = flatT (L ++ [((k : Int), V)]) from flatT_snoc L ((k : Int), V)))
        clear hg5 c0
        have HG6 := Lib.hid (HG5.out.store 0 (.slice o2 (L.length + 1) cp2))
        have HSL := Lib.hid (show sumL (L ++ [((k : Int), V)]) = sumL L + V by unfold sumL; rw [List.foldl_append]; rfl)
        obtain ⟨sm, hsm⟩ : ∃ x, sumL L = x := ⟨_, rfl⟩
        rw [hsm] at HG5 HG6 HSB HSL
        clear hsm
        have hs0 : 0 ≤ sm := HSB.out.1
        have hs1 : sm ≤ 12000000000 := by have := HSB.out.2; omega
        have hv0 : 0 ≤ V := HCB.out.1
        have hws : IntKind.i64.wrap (sm + V) = sm + V := IntWalk.i64_in _ (by omega)
        have HG7 := Lib.hid (HG6.out.store 1 (.int .i64 (sm + V)))
        have g0 : w5.cell? ⟨B, 0, none⟩ = some (.slice ol L.length cl) := by rw [← HBB.out.1]; exact HG5.out.blk.cell 0
        have f0 : w5.frozen? ⟨B, 0, none⟩ = false := by rw [← HBB.out.1]; exact HG5.out.blk.frozen 0
        have g1 : w5.cell? ⟨B, 1, none⟩ = some (.int .i64 sm) := by rw [← HBB.out.1]; exact HG5.out.blk.cell 1
        have f1 : w5.frozen? ⟨B, 1, none⟩ = false := by rw [← HBB.out.1]; exact HG5.out.blk.frozen 1
        rw [HBB.out.1] at HG7
        have HG8 := Lib.hid (show Grow w2 ((w5.setCell ⟨B, 0, none⟩ (.slice o2 (L.length + 1) cp2)).setCell ⟨B, 1, none⟩ (.int .i64 (sm + V))) 119 2 39 #[.slice o2 (linA c s (k + 1)).length cp2, .int .i64 (sumL (linA c s (k + 1))), .int .i64 0, .int .i64 0] (.slice o2 (linA c s (k + 1)).length cp2) (linA c s (k + 1)).length (flatT (linA c s (k + 1))) by
          rw [HL2.out, HSL.out, List.length_append]
          exact HG7.out)
        have HALL2 := Lib.hid (show ∀ x ∈ linA c s (k + 1), 0 ≤ x.2 ∧ x.2 ≤ 1000000000 by
          rw [HL2.out]
          intro x hx
          rcases List.mem_append.1 hx with hx | hx
          · exact HALL.out x hx
          · obtain rfl := List.mem_singleton.1 hx
            exact ⟨hv0, hv⟩)
        clear HG5 HG6 HG7 HG
        go_wp2
        go_roundw
        case rel => exact ⟨k + 1, o2, cp2, hlt, by go_num, by rw [HR2.out], by rw [HM2.out], HG8.out, HALL2.out⟩
        case measure => simp [intOf]; omega
    · obtain rfl : k = c.arts.length := by omega
      rw [List.take_length] at HMC HRB
      try rw [List.take_length]
      have HNB := Lib.hid (show netB c s = if 0 ≤ mostN c.arts then min (sumL (linA c s c.arts.length)) (mostN c.arts) else sumL (linA c s c.arts.length) from (HMC.out _).2.2)
      have HMB := Lib.hid (show -1 ≤ mostN c.arts ∧ mostN c.arts ≤ 1000000 from ⟨(HMC.out 0).1, (HMC.out 0).2.1⟩)
      have HLO := Lib.hid (show linOk c s = true by unfold linOk; rw [List.all_eq_true]; exact fun x hx => decide_eq_true (HALL.out x hx).2)
      have HTX := Lib.hid (show taxB c s = (2 * netB c s * rateN c.arts + 10000) / 20000 from rfl)
      have HAO := Lib.hid (show addOk (netB c s) (rateN c.arts) = (decide (netB c s ≤ 1000000000) && decide (netB c s + taxB c s ≤ 1000000000)) from rfl)
      obtain ⟨mm, hmm⟩ : ∃ x, mostN c.arts = x := ⟨_, rfl⟩
      rw [hmm] at HNB HMB
      try rw [hmm]
      clear hmm HMC
      obtain ⟨L, hL⟩ : ∃ x, linA c s c.arts.length = x := ⟨_, rfl⟩
      have HLL := Lib.hid hL
      rw [hL] at HG HALL hll HSB HNB
      clear hL
      obtain ⟨sm, hsm⟩ : ∃ x, sumL L = x := ⟨_, rfl⟩
      rw [hsm] at HG HSB HNB
      clear hsm
      obtain ⟨r, hr⟩ : ∃ x, rateN c.arts = x := ⟨_, rfl⟩
      rw [hr] at HRB HTX HAO HSK
      try rw [hr]
      clear hr
      have g1 : wA.cell? ⟨B, 1, none⟩ = some (.int .i64 sm) := by rw [← HBB.out.1]; exact HG.out.blk.cell 1
      have f1 : wA.frozen? ⟨B, 1, none⟩ = false := by rw [← HBB.out.1]; exact HG.out.blk.frozen 1
      have hs0 : 0 ≤ sm := HSB.out.1
      have hs1 : sm ≤ 12000000000 := by have := HSB.out.2; omega
      go_upto_if 63 with (fail)
      go_cut [68] from 63 to 67 (fun v wx => Grow w2 wx 119 2 39 #[.slice ol L.length cl, .int .i64 (netB c s), .int .i64 0, .int .i64 0] (.slice ol L.length cl) L.length (flatT L))
      case first =>
        by_cases km : 0 ≤ mm
        · have dm : decide (0 ≤ mm) = true := decide_eq_true km
          by_cases kq : mm < sm
          · have HN2 := Lib.hid (show netB c s = mm by rw [HNB.out, if_pos km]; omega)
            have HG2 := Lib.hid (HG.out.store 1 (.int .i64 mm))
            rw [HBB.out.1] at HG2
            go_wp2
            go_meet
            case rel => rw [HN2.out]; exact HG2.out
          · have HN2 := Lib.hid (show netB c s = sm by rw [HNB.out, if_pos km]; omega)
            have HG2 := Lib.hid (HG.out.store 1 (.int .i64 sm))
            rw [HBB.out.1] at HG2
            go_wp2
            go_meet
            case rel => rw [HN2.out]; exact HG2.out
        · have dm : decide (0 ≤ mm) = false := decide_eq_false km
          have HN2 := Lib.hid (show netB c s = sm by rw [HNB.out, if_neg km])
          go_wp2
          go_meet
          case rel => rw [HN2.out]; exact HG.out
      case rest =>
        replace HG := Lib.hid hcut
        clear hcut g1 f1 hs0 hs1
        have HNB2 := Lib.hid (show 0 ≤ netB c s ∧ netB c s ≤ 12000000000 by
          have h1 := HSB.out
          have h2 := HNB.out
          have h3 := HMB.out
          rw [h2]
          split <;> omega)
        obtain ⟨nb, hnb⟩ : ∃ x, netB c s = x := ⟨_, rfl⟩
        rw [hnb] at HG HNB2 HTX HAO HSK HY
        clear hnb HNB
        obtain ⟨tx, htx⟩ : ∃ x, taxB c s = x := ⟨_, rfl⟩
        rw [htx] at HTX HAO HY
        clear htx
        have HWB := Lib.hid (below_step HB2.out HG.out.below)
        have g1 : wc.cell? ⟨B, 1, none⟩ = some (.int .i64 nb) := by rw [← HBB.out.1]; exact HG.out.blk.cell 1
        by_cases kb : 1000000000 < nb
        · have HNO := Lib.hid (show sumOk c s = false by rw [HSK.out, HAO.out, decide_eq_false (show ¬ nb ≤ 1000000000 by omega)]; simp)
          have HTB := Lib.hid (tax_big nb r wc kb)
          clear kb
          go_wp2_with fail
          refine HTB.out.mono ?_
          rintro _ w5 ⟨hb, rfl⟩
          replace HWB := Lib.hid (below_step HWB.out hb)
          clear hb HTB g1
          go_wp2_with fail
          refine (must_no 0 1 w5 (by decide)).mono ?_
          rintro _ _ ⟨rfl, rfl⟩
          go_wp2
          exact ⟨rfl, HN.out _ HWB.out HNO.out⟩
        have htb := tax_bound HNB2.out.1 (show nb ≤ 1000000000 by omega) HRB.out.1 HRB.out.2
        have hx0 : 0 ≤ tx := by rw [HTX.out]; omega
        have hx1 : tx ≤ 1000000001 := by rw [HTX.out]; omega
        have HTXB := Lib.hid (show (2 * nb * r + 10000) / 20000 ≤ 1000000000 by omega)
        have HTB := Lib.hid (tax_ok nb r wc HNB2.out.1 (by omega) HRB.out.1 HRB.out.2 HTXB.out)
        rw [← HTX.out] at HTB
        have HKB := Lib.hid kb
        have hn0 : 0 ≤ nb := HNB2.out.1
        have hn1 : nb ≤ 1000000000 := by omega
        clear kb htb
        go_wp2_with fail
        refine HTB.out.mono ?_
        rintro _ w5 ⟨hb, rfl⟩
        replace HWB := Lib.hid (below_step HWB.out hb)
        replace HG := Lib.hid (HG.out.later hb)
        clear hb HTB g1
        have g1 : w5.cell? ⟨B, 1, none⟩ = some (.int .i64 nb) := by rw [← HBB.out.1]; exact HG.out.blk.cell 1
        have g2 : w5.cell? ⟨B, 2, none⟩ = some (.int .i64 0) := by rw [← HBB.out.1]; exact HG.out.blk.cell 2
        have g3 : w5.cell? ⟨B, 3, none⟩ = some (.int .i64 0) := by rw [← HBB.out.1]; exact HG.out.blk.cell 3
        have f2 : w5.frozen? ⟨B, 2, none⟩ = false := by rw [← HBB.out.1]; exact HG.out.blk.frozen 2
        have f3 : w5.frozen? ⟨B, 3, none⟩ = false := by rw [← HBB.out.1]; exact HG.out.blk.frozen 3
        have hwt : IntKind.i64.wrap (nb + tx) = nb + tx := IntWalk.i64_in _ (by omega)
        go_wp2_with fail
        refine (must_ok tx w5).mono ?_
        rintro _ _ ⟨rfl, rfl⟩
        have HG6 := Lib.hid ((HG.out.store 2 (.int .i64 tx)).store 3 (.int .i64 (nb + tx)))
        rw [HBB.out.1] at HG6
        go_upto_region 21 with (fail)
        obtain ⟨w6, hw6⟩ : ∃ W, W = (w5.setCell ⟨B, 2, none⟩ (.int .i64 tx)).setCell ⟨B, 3, none⟩ (.int .i64 (nb + tx)) := ⟨_, rfl⟩
        rw [← hw6] at HG6 ⊢
        clear hw6 g1 g2 g3 f2 f3 HG
        replace HWB := Lib.hid (below_step HB2.out HG6.out.below)
        have g0 : w6.cell? ⟨B, 0, none⟩ = some (.slice ol L.length cl) := by rw [← HBB.out.1]; exact HG6.out.blk.cell 0
        have g1 : w6.cell? ⟨B, 1, none⟩ = some (.int .i64 nb) := by rw [← HBB.out.1]; exact HG6.out.blk.cell 1
        have g2 : w6.cell? ⟨B, 2, none⟩ = some (.int .i64 tx) := by rw [← HBB.out.1]; exact HG6.out.blk.cell 2
        have g3 : w6.cell? ⟨B, 3, none⟩ = some (.int .i64 (nb + tx)) := by rw [← HBB.out.1]; exact HG6.out.blk.cell 3
        by_cases kt : 1000000000 < nb + tx
        · have dt : decide (1000000000 < nb + tx) = true := decide_eq_true kt
          have HNO := Lib.hid (show sumOk c s = false by rw [HSK.out, HAO.out, decide_eq_false (show ¬ nb + tx ≤ 1000000000 by omega)]; simp)
          clear kt
          go_wp2
          exact ⟨rfl, HN.out _ HWB.out HNO.out⟩
        · have dt : decide (1000000000 < nb + tx) = false := decide_eq_false kt
          have HYE := Lib.hid (show sumOk c s = true by rw [HSK.out, HAO.out, HLO.out, decide_eq_true (show nb ≤ 1000000000 by omega), decide_eq_true (show nb + tx ≤ 1000000000 by omega)]; rfl)
          have HRW := Lib.hid (cell_kept HG6.out.below (HR.out.cell 0))
          have HRR := Lib.hid (show Blk w6 R 39 #[.slice none 0 0, .int .i64 0, .int .i64 0, .int .i64 0] from HR.out.later HG6.out.below)
          have r0 : w6.cell? ⟨R, 0, none⟩ = some (.slice none 0 0) := HRR.out.cell 0
          have r1 : w6.cell? ⟨R, 1, none⟩ = some (.int .i64 0) := HRR.out.cell 1
          have r2 : w6.cell? ⟨R, 2, none⟩ = some (.int .i64 0) := HRR.out.cell 2
          have r3 : w6.cell? ⟨R, 3, none⟩ = some (.int .i64 0) := HRR.out.cell 3
          have z0 := HRR.out.frozen 0
          have z1 := HRR.out.frozen 1
          have z2 := HRR.out.frozen 2
          have z3 := HRR.out.frozen 3
          clear kt
          have HTS := Lib.hid (show TwosN (w2.heap.size + 1) w6 ol L from fun S hS => ownsRow_twosS (S := S) HG6.out.own hS)
          go_wp2
          have HR7 := Lib.hid ((((HRR.out.set 0 (.slice ol L.length cl)).set 1 (.int .i64 nb)).set 2 (.int .i64 tx)).set 3 (.int .i64 (nb + tx)))
          have HA7 := Lib.hid (((((Agr.refl w6 [R]).set (g := R) (i := 0) (u := .slice ol L.length cl) (by simp)).set (g := R) (i := 1) (u := .int .i64 nb) (by simp)).set (g := R) (i := 2) (u := .int .i64 tx) (by simp)).set (g := R) (i := 3) (u := .int .i64 (nb + tx)) (by simp))
          have HB7 := Lib.hid (HA7.out.below HWB.out (by have := HBB.out; intro b hb; obtain rfl := List.mem_singleton.1 hb; omega))
          have HT7 := Lib.hid (HTS.out.agr (m := w.heap.size) HA7.out (fun b hb => by obtain rfl := List.mem_singleton.1 hb; have := HBB.out; omega) (by have := HBB.out; omega))
          generalize ((((w6.setCell ⟨R, 0, none⟩ (.slice ol L.length cl)).setCell ⟨R, 1, none⟩ (.int .i64 nb)).setCell ⟨R, 2, none⟩ (.int .i64 tx)).setCell ⟨R, 3, none⟩ (.int .i64 (nb + tx))) = w7 at HR7 HA7 HB7 HT7 ⊢
          clear r0 r1 r2 r3 z0 z1 z2 z3
          have r0 : w7.cell? ⟨R, 0, none⟩ = some (.slice ol L.length cl) := HR7.out.cell 0
          have r1 : w7.cell? ⟨R, 1, none⟩ = some (.int .i64 nb) := HR7.out.cell 1
          have r2 : w7.cell? ⟨R, 2, none⟩ = some (.int .i64 tx) := HR7.out.cell 2
          have r3 : w7.cell? ⟨R, 3, none⟩ = some (.int .i64 (nb + tx)) := HR7.out.cell 3
          exact bodyPost_ret (v := .agg #[.slice ol L.length cl, .int .i64 nb, .int .i64 tx, .int .i64 (nb + tx)]) (by simp [results, Tryz.results42, go_sem, r0, r1, r2, r3]) rfl (HY.out w7 ol L.length cl nb tx (nb + tx) HB7.out HYE.out (by rw [HLL.out]; exact HT7.out) (by rw [HLL.out]) rfl rfl rfl)
end Go.Proofs.YtkfmmiekajgdjaaGreat