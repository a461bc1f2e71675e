/- chargeparklaw36.exchanged and PlateConfusable. -/
import Derived.Test.YtnjgmlehcolofaaDoorWh36
import Derived.Lib.ConvBytes
namespace Go.Proofs.YtnjgmlehcolofaaDoor
open Go.RowKit

/-- The place j of a text after the exchange. -/
def exC (set j c : Nat) : Bool := set.testBit j && decide (twin c ≠ 0)
def exAt (set : Nat) (s : ByteArray) (j : Nat) : Nat := if exC set j ((bs s).getD j 0) then twin ((bs s).getD j 0) else (bs s).getD j 0
def exL (set : Nat) (s : ByteArray) : List Nat := (List.range s.size).map (exAt set s)
def exS (set : Nat) (s : ByteArray) : ByteArray := strOfNums ((exL set s).map fun (n : Nat) => (n : Int))
def exN (set : Nat) (s : ByteArray) (k : Nat) : Nat := ((List.range k).map fun j => if exC set j ((bs s).getD j 0) then 1 else 0).sum

/-- The bytes of the call's own, the first k exchanged. -/
def Byt (w : World) (g : Nat) (set : Nat) (s : ByteArray) (k : Nat) : Prop :=
  ∀ j, j < s.size → w.cell? ⟨g, j, none⟩ = some (.int .u8 ((if j < k then exAt set s j else (bs s).getD j 0 : Nat) : Int)) ∧ w.frozen? ⟨g, j, none⟩ = false

theorem ofInt_small (a : Nat) (ha : a < 9223372036854775808) : (BitVec.ofInt 64 (a : Int)).toNat = a := by
  rw [BitVec.ofInt_natCast, BitVec.toNat_ofNat]; exact Nat.mod_eq_of_lt (by omega)
theorem bit_at (set k : Nat) (h : set ≤ 9223372036854775807) : bits .and .i64 ((set : Int) / 2 ^ k) 1 = if set.testBit k then 1 else 0 := by
  have e : ((set : Int) / 2 ^ k) = ((set / 2 ^ k : Nat) : Int) := by
    simp
  have hd : set / 2 ^ k ≤ set := Nat.div_le_self _ _
  have h1 : bits .and .i64 (((set / 2 ^ k : Nat) : Int)) ((1 : Nat) : Int) = (((set / 2 ^ k) &&& 1 : Nat) : Int) := by
    show IntKind.i64.wrap ((BitVec.ofInt 64 ((set / 2 ^ k : Nat) : Int) &&& BitVec.ofInt 64 ((1 : Nat) : Int)).toNat : Int) = _
    rw [BitVec.toNat_and, ofInt_small _ (by omega), ofInt_small 1 (by omega), IntKind.wrap_i64]
    have : (set / 2 ^ k) &&& 1 ≤ 1 := Nat.and_le_right
    omega
  rw [e]
  refine h1.trans ?_
  rw [Nat.and_one_is_mod, Nat.testBit_eq_decide_div_mod_eq]
  have := Nat.mod_two_eq_zero_or_one (set / 2 ^ k)
  rcases this with h2 | h2 <;> simp [h2]

theorem exN_succ (set : Nat) (s : ByteArray) (k : Nat) : exN set s (k + 1) = exN set s k + if exC set k ((bs s).getD k 0) then 1 else 0 := by
  simp [exN, List.range_succ]
theorem exN_le (set : Nat) (s : ByteArray) (k : Nat) : exN set s k ≤ k := by
  induction k with
  | zero => simp [exN]
  | succ k ih => rw [exN_succ]; split <;> omega

theorem Byt.below {w w' : World} {g set k : Nat} {s : ByteArray} (h : Byt w g set s k) (hg : g < w.heap.size) (hb : Below w.heap.size w w') : Byt w' g set s k := fun j hj => by
  obtain ⟨h1, h2⟩ := h j hj
  exact ⟨(hb.cell (p := ⟨g, j, none⟩) hg).trans h1, (hb.frozen (p := ⟨g, j, none⟩) hg).trans h2⟩
theorem Byt.same {w : World} {g set k : Nat} {s : ByteArray} (h : Byt w g set s k) (hx : exAt set s k = (bs s).getD k 0) : Byt w g set s (k + 1) := fun j hj => by
  obtain ⟨h1, h2⟩ := h j hj
  refine ⟨?_, h2⟩
  rw [h1]
  by_cases hjk : j = k
  · subst hjk; rw [if_neg (Nat.lt_irrefl j), if_pos (Nat.lt_succ_self j), hx]
  · by_cases hlt : j < k
    · rw [if_pos hlt, if_pos (by omega)]
    · rw [if_neg hlt, if_neg (by omega)]
theorem Byt.set {w : World} {g set k : Nat} {s : ByteArray} (h : Byt w g set s k) (hk : k < s.size) {x : Nat} (hx : exAt set s k = x) : Byt (w.setCell ⟨g, k, none⟩ (.int .u8 (x : Int))) g set s (k + 1) := fun j hj => by
  obtain ⟨h1, h2⟩ := h j hj
  refine ⟨?_, by rw [World.frozen?_setCell]; exact h2⟩
  by_cases hjk : j = k
  · subst hjk
    rw [if_pos (Nat.lt_succ_self j), hx]
    exact World.cell?_setCell_same _ _ _ h1
  · rw [World.cell?_setCell_other w ⟨g, k, none⟩ ⟨g, j, none⟩ _ (fun e => hjk (congrArg Addr.off e).symm), h1]
    by_cases hlt : j < k
    · rw [if_pos hlt, if_pos (by omega)]
    · rw [if_neg hlt, if_neg (by omega)]

set_option maxHeartbeats 1000000 in
theorem exchanged_any (s : ByteArray) (set : Nat) (w : World) (hs : s.size ≤ 10) (hset : set ≤ 9223372036854775807) :
    Calls Tryd.prog 17 #[.string s, .int .i64 (set : Int)] w (Ret (.tuple #[.string (exS set s), .int .i64 (exN set s s.size : Nat)]) w) := by
  have kc := Lib.run_convert_string_bytes (P := Tryd.prog) w 9 43 5 s Tryd.underlying9 Tryd.underlying43 Tryd.underlying5
  go_enter Tryd.func17, Tryd.ntmps17
  go_wp2
  go_loopw [7, 8] (fun n i wr => ∃ k : Nat, k ≤ s.size ∧ i = .int .i64 k ∧ n = .int .i64 (exN set s k : Nat) ∧ Byt wr w.heap.size set s k ∧ Below w.heap.size w wr) (fun _ i _ => s.size - (intOf i).toNat)
  case atStart =>
    refine ⟨0, Nat.zero_le _, rfl, rfl, fun j hj => ⟨?_, ?_⟩, ?_⟩
    · have hd := bs_getD s j hj
      rw [if_neg (Nat.not_lt_zero j), Lib.bytesWorld_cell w 5 s j hj, hd]
      have hj' : j < s.data.size := hj
      have e : s.data[j]? = some s[j] := by rw [Array.getElem?_eq_getElem hj']; rfl
      simp [e]
    · have hl : j < (Lib.bytesCells w 5 s).size := by simp [Lib.bytesCells]; omega
      simp [World.frozen?, Lib.bytesWorld_at_new]
      omega
    · exact ⟨rfl, rfl, rfl, by rw [Lib.bytesWorld_size]; omega, fun j hj => Lib.bytesWorld_at_old w 5 s j hj⟩
  case round =>
    obtain ⟨k, hk, rfl, rfl, hB, hb⟩ := hrel
    by_cases hlt : k < s.size
    · obtain ⟨hc, hf⟩ := hB k hlt
      rw [if_neg (Nat.lt_irrefl k)] at hc
      have HBY := Lib.hid hB
      have HB := Lib.hid hb
      clear hB hb
      have hgs : w.heap.size < wr.heap.size := block_lt_of_cell hc
      obtain ⟨c, hcc⟩ : ∃ c, (bs s).getD k 0 = c := ⟨_, rfl⟩
      rw [hcc] at hc
      have HC := Lib.hid hcc
      clear hcc
      have hn := exN_le set s k
      have hst := exN_succ set s k
      rw [HC.out] at hst
      have HST := Lib.hid hst
      clear hst
      have hbt := bit_at set k hset
      by_cases hb1 : set.testBit k = true
      · by_cases ht : twin c = 0
        · have HX := Lib.hid (show exAt set s k = (bs s).getD k 0 by unfold exAt exC; rw [HC.out]; simp [ht])
          have HN := Lib.hid (show exN set s (k + 1) = exN set s k by rw [HST.out]; simp [exC, ht])
          rw [if_pos hb1] at hbt
          have ht' : ((twin c : Int) != 0) = false := by simp [ht]
          clear hb1 ht
          go_wp2_with fail
          refine (Twin_any c wr).mono ?_
          rintro e w1 ⟨rfl, hb1⟩
          have HB1 := Lib.hid hb1
          clear hb1
          go_wp2
          go_roundw
          case rel => exact ⟨k + 1, by omega, by go_num, by rw [HN.out], (HBY.out.below hgs HB1.out).same HX.out, below_step HB.out HB1.out⟩
          case measure => simp [intOf]; omega
        · have HX := Lib.hid (show exAt set s k = twin c by unfold exAt exC; rw [HC.out]; simp [ht, hb1])
          have HN := Lib.hid (show exN set s (k + 1) = exN set s k + 1 by rw [HST.out]; simp [exC, ht, hb1])
          rw [if_pos hb1] at hbt
          have ht' : ((twin c : Int) != 0) = true := by simp; omega
          clear hb1 ht
          go_wp2_with fail
          refine (Twin_any c wr).mono ?_
          rintro e w1 ⟨rfl, hb1⟩
          have HB1 := Lib.hid hb1
          have hc1 := (hb1.cell (p := ⟨w.heap.size, k, none⟩) hgs).trans hc
          have hf1 := (hb1.frozen (p := ⟨w.heap.size, k, none⟩) hgs).trans hf
          clear hb1
          go_wp2
          go_roundw
          case rel => exact ⟨k + 1, by omega, by go_num, by rw [HN.out]; go_num, (HBY.out.below hgs HB1.out).set hlt HX.out, (below_step HB.out HB1.out).setCell (Nat.le_refl _) _⟩
          case measure => simp [intOf]; omega
      · have hb0 : set.testBit k = false := by simpa using hb1
        have HX := Lib.hid (show exAt set s k = (bs s).getD k 0 by simp [exAt, exC, hb0])
        have HN := Lib.hid (show exN set s (k + 1) = exN set s k by rw [HST.out]; simp [exC, hb0])
        rw [if_neg hb1] at hbt
        clear hb1 hb0
        go_wp2_with fail
        refine (Twin_any c wr).mono ?_
        rintro e w1 ⟨rfl, hb1⟩
        have HB1 := Lib.hid hb1
        clear hb1
        go_wp2
        go_roundw
        case rel => exact ⟨k + 1, by omega, by go_num, by rw [HN.out], (HBY.out.below hgs HB1.out).same HX.out, below_step HB.out HB1.out⟩
        case measure => simp [intOf]; omega
    · obtain rfl : k = s.size := by omega
      have hcv : ∀ cap, (convert 43 9 (.slice (some ⟨w.heap.size, 0, none⟩) s.size cap)).run Tryd.prog wr = .ok (.string (exS set s)) wr := by
        intro cap
        refine run_convert_bytes_arg wr 43 5 Tryd.underlying43 Tryd.underlying5 w.heap.size 0 s.size cap ((exL set s).map fun (n : Nat) => (n : Int)) (by simp [exL]) (fun i hi => ?_) 9 Tryd.underlying9
        rw [Nat.zero_add, (hB i hi).1, if_pos hi]
        simp [exL, hi]
      have HB := Lib.hid hb
      clear hB hb
      go_wp2
      go_ret2
      exact ⟨rfl, HB.out⟩


/-! ### What the exchange does to distances -/
theorem twin_ok {c : Nat} (h : twin c ≠ 0) : okN (twin c) = true := by
  rcases twin_cases h with rfl | rfl | rfl | rfl | rfl | rfl | rfl | rfl | rfl | rfl <;> decide

theorem exL_length (set : Nat) (s : ByteArray) : (exL set s).length = s.size := by simp [exL]

theorem bs_getD_mem (s : ByteArray) (j : Nat) (hj : j < s.size) : (bs s).getD j 0 ∈ bs s := by
  have hl : j < (bs s).length := by rw [bs_length]; exact hj
  have e : (bs s).getD j 0 = (bs s)[j] := by simp [hl]
  rw [e]; exact List.getElem_mem _
theorem valid_all {s : ByteArray} (h : validS s = true) : ∀ c ∈ bs s, okN c = true := by
  simp only [validS, Bool.and_eq_true] at h
  exact List.all_eq_true.1 h.2

theorem exL_ok {set : Nat} {s : ByteArray} (h : validS s = true) : ∀ c ∈ exL set s, okN c = true := by
  intro c hc
  obtain ⟨j, hj, rfl⟩ := List.mem_map.1 hc
  have hj' : j < s.size := List.mem_range.1 hj
  unfold exAt
  split
  · rename_i hx
    simp only [exC, Bool.and_eq_true, decide_eq_true_eq] at hx
    exact twin_ok hx.2
  · exact valid_all h _ (bs_getD_mem s j hj')

theorem bs_ofNums : ∀ (l : List Nat), (∀ c ∈ l, c < 256) → bs (strOfNums (l.map fun (n : Nat) => (n : Int))) = l := by
  intro l h
  unfold bs
  rw [strOfNums_data, List.map_map, List.map_map]
  induction l with
  | nil => rfl
  | cons x l ih =>
    simp only [List.map_cons]
    rw [ih (fun c hc => h c (List.mem_cons_of_mem _ hc))]
    congr 1
    have := h x (List.mem_cons_self ..)
    simp [Function.comp]
    omega

theorem bs_exS {set : Nat} {s : ByteArray} (h : validS s = true) : bs (exS set s) = exL set s :=
  bs_ofNums _ (fun c hc => by have := okN_lt (exL_ok h c hc); omega)
theorem exS_valid {set : Nat} {s : ByteArray} (h : validS s = true) : validS (exS set s) = true := by
  obtain ⟨h1, h2⟩ := valid_size h
  have hsz : (exS set s).size = s.size := by rw [← bs_length, bs_exS h, exL_length]
  unfold validS
  rw [hsz, bs_exS h]
  have : (exL set s).all okN = true := List.all_eq_true.2 (exL_ok h)
  simp [h1, h2, this]

theorem H_sum : ∀ (xs ys : List Nat), xs.length = ys.length → H xs ys = ((List.range xs.length).map fun j => rc (xs.getD j 0) (ys.getD j 0)).sum := by
  intro xs
  induction xs with
  | nil => intro ys _; cases ys <;> simp [H]
  | cons x xs ih =>
    intro ys h
    cases ys with
    | nil => simp at h
    | cons y ys =>
      rw [H, ih ys (by simpa using h)]
      simp only [List.length_cons, List.range_succ_eq_map, List.map_cons, List.sum_cons, List.map_map]
      rfl

theorem H_ex {set : Nat} {s : ByteArray} : H (bs s) (exL set s) = exN set s s.size := by
  rw [H_sum _ _ (by rw [bs_length, exL_length]), bs_length]
  unfold exN
  congr 1
  apply List.map_congr_left
  intro j hj
  have hj' : j < s.size := List.mem_range.1 hj
  have e : (exL set s).getD j 0 = exAt set s j := by simp [exL, hj']
  rw [e]
  unfold exAt
  split
  · rename_i hx
    simp only [exC, Bool.and_eq_true, decide_eq_true_eq] at hx
    exact rc_tw_one hx.2
  · exact rc_self _

theorem ex_le {set : Nat} {s : ByteArray} : E (bs s) (exL set s) ≤ exN set s s.size := by
  have := E_le_H (bs s) (exL set s) (by rw [bs_length, exL_length])
  rw [H_ex] at this; exact this
theorem ex_ge {set : Nat} {s : ByteArray} : min (exN set s s.size) 4 ≤ E (bs s) (exL set s) := by
  have := H_le_E (bs s) (exL set s) (by rw [bs_length, exL_length])
  rw [H_ex] at this; exact this

theorem bit1023 : ∀ j, j < 10 → Nat.testBit 1023 j = true := by decide
theorem ex_full {s : ByteArray} (h : s.size ≤ 10) : exL 1023 s = (bs s).map tw := by
  apply List.ext_getElem
  · rw [exL_length, List.length_map, bs_length]
  · intro j h1 h2
    have hj : j < s.size := by rw [exL_length] at h1; exact h1
    have hl : j < (bs s).length := by rw [bs_length]; exact hj
    have e : (bs s).getD j 0 = (bs s)[j] := by simp [hl]
    simp only [exL, List.getElem_map, List.getElem_range]
    unfold exAt exC tw
    rw [e, bit1023 j (by omega)]
    simp

set_option maxHeartbeats 2000000 in
theorem PlateConfusable_walk (a b : ByteArray) (n : Int) (sa : a.size ≤ 140737488351232) (sb : b.size ≤ 140737488351232) (wn : (Lit.int .i64 n).wf = true) (w : World) (hT : Tab w) :
    Calls Tryd.prog 8 #[.string a, .string b, .int .i64 n] w (Ret (.bool true) w) := by
  have HT := Lib.hid hT
  clear hT
  have hn2 : n ≤ 9223372036854775807 := by
    simp [Lit.wf, IntKind.min, IntKind.max, IntKind.signed, IntKind.bits] at wn; omega
  clear wn
  have HZ := Lib.hid (show ∀ s ∈ [a, b], s.size ≤ 9223372036854775807 by simp only [List.mem_cons, List.not_mem_nil, or_false]; rintro s (rfl | rfl) <;> omega)
  by_cases hv : allV [a, b] = true
  · obtain ⟨va, vb⟩ := allV2 hv
    have HV := Lib.hid hv
    by_cases hn : n < 0
    · clear hv va vb
      go_enter Tryd.func8, Tryd.ntmps8
      go_wp2_with fail
      refine (head_any w HT.out).mono ?_
      rintro e w1 ⟨rfl, hb⟩
      have HB1 := Lib.hid hb
      clear hb
      go_wp2_with fail
      refine (plates_any [a, b] w1.heap.size _ (Blk.new w1 _ _) (by simp) HZ.out).mono ?_
      rintro e w2 ⟨rfl, hb⟩
      rw [HV.out]
      have HB2 := Lib.hid (below_step (below_alloc HB1.out _) hb)
      clear hb HB1
      go_wp2
      go_ret
      exact ⟨rfl, HB2.out⟩
    · obtain ⟨set, rfl⟩ := Int.eq_ofNat_of_zero_le (by omega : 0 ≤ n)
      obtain ⟨p1, p2⟩ := valid_size va
      obtain ⟨q1, q2⟩ := valid_size vb
      have HA := Lib.hid va
      have HB := Lib.hid vb
      have HC := Lib.hid (exS_valid (set := set) va)
      have HP := Lib.hid (exS_valid (set := 1023) va)
      have HQ := Lib.hid (exS_valid (set := 1023) vb)
      obtain ⟨x, hx⟩ : ∃ x, E (bs a) (bs (exS set a)) = x := ⟨_, rfl⟩
      obtain ⟨y, hy⟩ : ∃ y, E (bs a) (bs b) = y := ⟨_, rfl⟩
      obtain ⟨m, hm⟩ : ∃ m, exN set a a.size = m := ⟨_, rfl⟩
      have hZ : E (bs (exS 1023 a)) (bs (exS 1023 b)) = y := by rw [bs_exS va, bs_exS vb, ex_full p2, ex_full q2, E_twins]; exact hy
      have m1 : m ≤ 10 := by rw [← hm]; have := exN_le set a a.size; omega
      have l1 : (x : Int) ≤ (m : Int) := by have := @ex_le set a; rw [← bs_exS va, hx, hm] at this; omega
      have l2 : min (m : Int) 4 ≤ (x : Int) := by have := @ex_ge set a; rw [← bs_exS va, hx, hm] at this; omega
      have HX := Lib.hid hx
      have HY := Lib.hid hy
      have HZ2 := Lib.hid hZ
      have HM := Lib.hid hm
      have hset : set ≤ 9223372036854775807 := by omega
      clear hv va vb hx hy hZ hm hn2
      have hn' : ¬ (set : Int) < 0 := by omega
      clear hn
      go_enter Tryd.func8, Tryd.ntmps8
      go_wp2_with fail
      refine (head_any w HT.out).mono ?_
      rintro e w1 ⟨rfl, hb⟩
      have HB1 := Lib.hid hb
      clear hb
      go_wp2_with fail
      refine (plates_any [a, b] w1.heap.size _ (Blk.new w1 _ _) (by simp) HZ.out).mono ?_
      rintro e w2 ⟨rfl, hb⟩
      rw [HV.out]
      have HB2 := Lib.hid (below_step (below_alloc HB1.out _) hb)
      clear hb HB1
      go_wp2_with fail
      refine (exchanged_any a set w2 p2 hset).mono ?_
      rintro e w3 ⟨rfl, hb⟩
      rw [HM.out]
      have HB3 := Lib.hid (below_step HB2.out hb)
      clear hb HB2
      go_wp2_with fail
      refine (exchanged_any a 1023 w3 p2 (by omega)).mono ?_
      rintro e w4 ⟨rfl, hb⟩
      have HB4 := Lib.hid (below_step HB3.out hb)
      clear hb HB3
      go_wp2_with fail
      refine (exchanged_any b 1023 w4 q2 (by omega)).mono ?_
      rintro e w5 ⟨rfl, hb⟩
      have HB5 := Lib.hid (below_step HB4.out hb)
      clear hb HB4
      go_wp2_with fail
      refine (Distance_ok a (exS set a) x w5 (HT.out.below HB5.out) HA.out HC.out HX.out).mono ?_
      rintro e w6 ⟨rfl, hb⟩
      have HB6 := Lib.hid (below_step HB5.out hb)
      clear hb HB5
      go_wp2_with fail
      refine (Distance_ok a b y w6 (HT.out.below HB6.out) HA.out HB.out HY.out).mono ?_
      rintro e w7 ⟨rfl, hb⟩
      have HB7 := Lib.hid (below_step HB6.out hb)
      clear hb HB6
      go_wp2_with fail
      refine (Distance_ok (exS 1023 a) (exS 1023 b) y w7 (HT.out.below HB7.out) HP.out HQ.out HZ2.out).mono ?_
      rintro e w8 ⟨rfl, hb⟩
      have HB8 := Lib.hid (below_step HB7.out hb)
      clear hb HB7
      go_wp2
      all_goals go_ret
      all_goals exact ⟨ret_bool (by first | rfl | (simp; done) | (simp; omega)), HB8.out⟩
  · have HV := Lib.hid (show allV [a, b] = false by simpa using hv)
    clear hv
    go_enter Tryd.func8, Tryd.ntmps8
    go_wp2_with fail
    refine (head_any w HT.out).mono ?_
    rintro e w1 ⟨rfl, hb⟩
    have HB1 := Lib.hid hb
    clear hb
    go_wp2_with fail
    refine (plates_any [a, b] w1.heap.size _ (Blk.new w1 _ _) (by simp) HZ.out).mono ?_
    rintro e w2 ⟨rfl, hb⟩
    rw [HV.out]
    have HB2 := Lib.hid (below_step (below_alloc HB1.out _) hb)
    clear hb HB1
    go_wp2
    go_ret
    exact ⟨rfl, HB2.out⟩

end Go.Proofs.YtnjgmlehcolofaaDoor
