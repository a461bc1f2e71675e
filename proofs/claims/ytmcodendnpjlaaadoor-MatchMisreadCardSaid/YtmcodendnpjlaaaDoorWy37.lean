/- Chapter 37: MatchMisread walked. -/
import Derived.Test.YtmcodendnpjlaaaDoorPlainM37
import Derived.Test.YtmcodendnpjlaaaDoorWx37
import Derived.Laws.BytesArg
import Derived.Lib.ConvBytes
namespace Go.Proofs.YtmcodendnpjlaaaDoor
open Go.RowKit
attribute [local go_sem] Oper.semAt_some

theorem far_next {E' : List Ps} {i : Nat} (h : ∀ a, a < i → ∀ b, b < a → 4 ≤ E (bs (E'.getD a Ps.zero).s) (bs (E'.getD b Ps.zero).s)) (h2 : ∀ b, b < i → 4 ≤ E (bs (E'.getD i Ps.zero).s) (bs (E'.getD b Ps.zero).s)) : ∀ a, a < i + 1 → ∀ b, b < a → 4 ≤ E (bs (E'.getD a Ps.zero).s) (bs (E'.getD b Ps.zero).s) := fun a ha b hb => by
  by_cases e : a = i
  · subst e; exact h2 b hb
  · exact h a (by omega) b hb
theorem Pss.at {w : World} {g i : Nat} {l : List Ps} (h : Pss w (some ⟨g, 0, none⟩) l) (hi : i < l.length) : w.cell? ⟨g, i * 2, none⟩ = some (.string (l.getD i Ps.zero).s) ∧ w.cell? ⟨g, i * 2 + 1, none⟩ = some (.int .i64 (l.getD i Ps.zero).mn) := by
  obtain ⟨b, off, ho, c0, c1⟩ := h i hi
  injection ho with ho
  injection ho with ho1 ho2
  subst ho1 ho2
  rw [Nat.zero_add] at c0 c1
  exact ⟨c0, c1⟩
theorem Pss.set {w : World} {g r : Nat} {l : List Ps} (h : Pss w (some ⟨g, 0, none⟩) l) (s : ByteArray) : Pss (w.setCell ⟨g, r * 2, none⟩ (.string s)) (some ⟨g, 0, none⟩) (l.set r ⟨s, (l.getD r Ps.zero).mn⟩) := fun i hi => by
  rw [List.length_set] at hi
  obtain ⟨c0, c1⟩ := h.at hi
  refine ⟨g, 0, rfl, ?_, ?_⟩
  · rw [Nat.zero_add]
    by_cases e : r = i
    · subst e
      rw [World.cell?_setCell_same _ _ _ c0]
      simp [List.getD_eq_getElem?_getD, hi]
    · rw [World.cell?_setCell_other _ _ _ _ (fun h2 => e (by injection h2 with _ h3; omega)), c0]
      simp [List.getD_eq_getElem?_getD, e]
  · rw [Nat.zero_add, World.cell?_setCell_other _ _ _ _ (fun h2 => by injection h2 with _ h3; omega), c1]
    by_cases e : r = i
    · subst e
      simp [List.getD_eq_getElem?_getD, hi]
    · simp [List.getD_eq_getElem?_getD, e]
theorem Ints.set_other {w : World} {g j : Nat} {u : Value} {o : Option Addr} {l : List Int} (h : Ints w o l) (hne : ∀ a, o = some a → a.block ≠ g) : Ints (w.setCell ⟨g, j, none⟩ u) o l := fun i hi => by
  obtain ⟨b, off, ho, c0⟩ := h i hi
  have := hne _ ho
  exact ⟨b, off, ho, by rw [World.cell?_setCell_other _ _ _ _ (fun h2 => this (by injection h2 with h3; exact h3.symm))]; exact c0⟩
/-- The bytes of a text in a block. -/
def BytA (w : World) (g : Nat) (l : List Nat) : Prop := ∀ j, j < l.length → w.cell? ⟨g, j, none⟩ = some (.int .u8 ((l.getD j 0 : Nat) : Int)) ∧ w.frozen? ⟨g, j, none⟩ = false
theorem BytA.conv {P : Program} {w : World} {g : Nat} {l : List Nat} (h : BytA w g l) {src e dst : TypeId} (hs : P.underlying src = some (.slice e)) (he : P.underlying e = some (.int .u8)) (hd : P.underlying dst = some .string) (cap : Nat) : (convert src dst (.slice (some ⟨g, 0, none⟩) l.length cap)).run P w = .ok (.string (strOfNums (l.map fun (n : Nat) => (n : Int)))) w :=
  run_convert_bytes_arg w src e hs he g 0 l.length cap (l.map fun (n : Nat) => (n : Int)) (by simp) (fun i hi => by
    rw [Nat.zero_add, (h i hi).1]
    simp [List.getD_eq_getElem?_getD, hi]) dst hd
theorem BytA.later {w w' : World} {g : Nat} {l : List Nat} (h : BytA w g l) (hb : Below w.heap.size w w') : BytA w' g l := fun j hj => by
  obtain ⟨c0, f0⟩ := h j hj
  exact ⟨cell_kept hb c0, by rw [← f0]; exact hb.frozen (p := ⟨g, j, none⟩) (cell_lt c0)⟩
theorem BytA.set {w : World} {g q c : Nat} {l : List Nat} (h : BytA w g l) : BytA (w.setCell ⟨g, q, none⟩ (.int .u8 (c : Int))) g (l.set q c) := fun j hj => by
  rw [List.length_set] at hj
  obtain ⟨c0, f0⟩ := h j hj
  refine ⟨?_, by simpa using f0⟩
  by_cases e : q = j
  · subst e
    rw [World.cell?_setCell_same _ _ _ c0]
    simp [List.getD_eq_getElem?_getD, hj]
  · rw [World.cell?_setCell_other _ _ _ _ (fun h2 => e (by injection h2 with _ h3)), c0]
    simp [List.getD_eq_getElem?_getD, e]
theorem distV_cases (a b : ByteArray) : ∃ d e : Int, distV a b = .tuple #[.int .i64 d, .int .i64 e] ∧ (e = 0 → d = 1 → E (bs a) (bs b) = 1) := by
  unfold distV
  by_cases h : (validS a && validS b) = true
  · rw [if_pos h]
    exact ⟨_, _, rfl, fun _ h1 => by omega⟩
  · rw [if_neg h]
    exact ⟨_, _, rfl, fun h1 => by omega⟩
theorem misL_sz {EE : List Ps} {of : List Nat} {M : Int} {r : Nat} {rs : ByteArray} (h : ∀ x ∈ EE, x.s.size ≤ 9223372036854775807) (hr : rs.size ≤ 9223372036854775807) : ∀ x ∈ misL EE M of r rs, x.s.size ≤ 9223372036854775807 := fun x hx => by
  unfold misL at hx
  rcases List.mem_or_eq_of_mem_set hx with hx | rfl
  · exact outL_sz h x hx
  · exact hr
theorem validS_size {s : ByteArray} (h : validS s = true) : 1 ≤ s.size ∧ s.size ≤ 10 := by
  simp only [validS, Bool.and_eq_true, decide_eq_true_eq] at h
  exact ⟨h.1.1, h.1.2⟩
theorem bytesBelow (w : World) (s : ByteArray) : Below w.heap.size w (Lib.bytesWorld w 5 s) := ⟨rfl, rfl, rfl, by rw [Lib.bytesWorld_size]; omega, fun j hj => Lib.bytesWorld_at_old w 5 s j hj⟩
theorem bytesA (w : World) (s : ByteArray) : BytA (Lib.bytesWorld w 5 s) w.heap.size (bs s) := fun j hj => by
  rw [bs_length] at hj
  have hd := bs_getD s j hj
  refine ⟨?_, ?_⟩
  · rw [Lib.bytesWorld_cell w 5 s j hj, hd]
    have hj' : j < s.data.size := hj
    have e : s.data[j]? = some s[j] := by rw [Array.getElem?_eq_getElem hj']; rfl
    simp [e]
  · have hl : j < (Lib.bytesCells w 5 s).size := by simp [Lib.bytesCells]; omega
    simp [World.frozen?, Lib.bytesWorld_at_new]
    omega
theorem Pss.set_other {w : World} {g j : Nat} {u : Value} {o : Option Addr} {l : List Ps} (h : Pss w o l) (hne : ∀ a, o = some a → a.block ≠ g) : Pss (w.setCell ⟨g, j, none⟩ u) o l := fun i hi => by
  obtain ⟨b, off, ho, c0, c1⟩ := h i hi
  have := hne _ ho
  exact ⟨b, off, ho, by rw [World.cell?_setCell_other _ _ _ _ (fun h2 => this (by injection h2 with h3; exact h3.symm))]; exact c0, by rw [World.cell?_setCell_other _ _ _ _ (fun h2 => this (by injection h2 with h3; exact h3.symm))]; exact c1⟩
structure MisI (x n : Nat) : Prop where
  lt : x % n < n
  rem : (wrap64 (x : Int)).tmod (n : Int) = ((x % n : Nat) : Int)
  rem3 : (IntKind.i64.wrap (x : Int)).tmod (n : Int) = ((x % n : Nat) : Int)
  ne : ((n : Int) == 0) = false
  ne2 : ¬ (n : Int) = 0
  y1 : (0 : Int) ≤ ((x % n : Nat) : Int)
  y2 : ((x % n : Nat) : Int) < (n : Int)
theorem misI {x n : Nat} (hn : 0 < n) (hx : x ≤ 255) : MisI x n := by
  have h := Nat.mod_lt x hn
  exact ⟨h, by rw [show wrap64 (x : Int) = (x : Int) by unfold wrap64; omega]; rfl, by rw [show IntKind.i64.wrap (x : Int) = (x : Int) from IntWalk.i64_in _ (by omega)]; rfl, by rw [beq_eq_false_iff_ne]; omega, by omega, by omega, by omega⟩

set_option maxRecDepth 100000 in
set_option maxHeartbeats 16000000 in
theorem MatchMisread_walk (w : World) (hT : Tab w) (oe : Option Addr) (ce : Nat) (E : List Ps) (he : Pss w oe E) (hle : E.length ≤ 6000000000000) (_hec : E.length ≤ ce) (hes : ∀ x ∈ E, x.s.size ≤ 9223372036854775807) (oo : Option Addr) (co : Nat) (ord : List Nat) (ho : U8s w oo ord) (hol : ord.length ≤ 9000000000000000000) (which : Nat) (hwh : which ≤ 255) (at' : Nat) (hat : at' ≤ 255) :
    Calls Tryd.prog 6 #[.slice oe E.length ce, .slice oo ord.length co, .int .u8 (which : Int), .int .u8 (at' : Int)] w (Ret (.bool true) w) := by
  have HE := Lib.hid he
  have HO := Lib.hid ho
  have HT := Lib.hid hT
  have HES := Lib.hid hes
  have HLE := Lib.hid (show E.length ≤ 9000000000000000000 by omega)
  have HWH := Lib.hid hwh
  have HAT := Lib.hid hat
  clear he ho hT hes hwh hat
  go_enter Tryd.func6, Tryd.ntmps6
  go_wp2_with fail
  refine (head_any w HT.out).mono ?_
  rintro _ W1 ⟨rfl, hb⟩
  have HB1 := Lib.hid hb
  clear hb
  go_wp2_with fail
  refine (RValidL_any oe ce E W1 (HE.out.later HB1.out) HLE.out HES.out).mono ?_
  rintro _ W2 ⟨rfl, hb⟩
  have HB2 := Lib.hid (below_step HB1.out hb)
  clear hb HB1
  cases hve : validP E with
  | false =>
    go_wp2
    go_ret
    exact ⟨rfl, HB2.out⟩
  | true =>
  have HVE := Lib.hid hve
  have HE8 := Lib.hid (validP_len hve)
  clear hve
  rcases Nat.eq_zero_or_pos E.length with h0 | hpos
  · obtain rfl : E = [] := List.eq_nil_of_length_eq_zero h0
    clear h0
    go_wp2
    go_ret
    exact ⟨rfl, HB2.out⟩
  have HPOS := Lib.hid hpos
  have hne0 : ((E.length : Int) == 0) = false := by rw [beq_eq_false_iff_ne]; exact fun e => absurd (Int.ofNat_eq_zero.1 e) (Nat.ne_of_gt hpos)
  clear hpos
  go_wp2
  go_loopw [35] (fun i wr => ∃ k : Nat, k ≤ E.length ∧ i = .int .i64 k ∧ Below w.heap.size w wr ∧ ∀ a, a < k → ∀ b, b < a → 4 ≤ Go.Proofs.YtmcodendnpjlaaaDoor.E (bs (E.getD a Ps.zero).s) (bs (E.getD b Ps.zero).s)) (fun i _ => E.length - (intOf i).toNat)
  case atStart => exact ⟨0, Nat.zero_le _, rfl, HB2.out, fun a ha => absurd ha (Nat.not_lt_zero _)⟩
  case round =>
    obtain ⟨i, hi, rfl, hb, hdf⟩ := hrel
    have HB := Lib.hid hb
    have HDF := Lib.hid hdf
    clear hb hdf HB2
    by_cases hlt : i < E.length
    · have HI1 := Lib.hid (show i + 1 ≤ E.length from hlt)
      have y1 : (0 : Int) ≤ (i : Int) := Int.natCast_nonneg i
      have y2 : (i : Int) < (E.length : Int) := Int.ofNat_lt.2 hlt
      go_wp2
      go_loopw [39] (fun k wr => ∃ j : Nat, j ≤ i ∧ k = .int .i64 j ∧ Below w.heap.size w wr ∧ ∀ b, b < j → 4 ≤ Go.Proofs.YtmcodendnpjlaaaDoor.E (bs (E.getD i Ps.zero).s) (bs (E.getD b Ps.zero).s)) (fun k _ => i - (intOf k).toNat)
      case atStart => exact ⟨0, Nat.zero_le _, rfl, HB.out, fun b hb => absurd hb (Nat.not_lt_zero _)⟩
      case round =>
        obtain ⟨k, hk, rfl, hb, hdk⟩ := hrel
        have HBk := Lib.hid hb
        have HDK := Lib.hid hdk
        clear hb hdk HB
        by_cases hki : k < i
        · have HTW := Lib.hid (twoI hlt hki)
          have y3 := HTW.out.y3
          have y4 := HTW.out.y4
          have y5 := HTW.out.y5
          obtain ⟨g, off, hgo, a0, a1⟩ := (HE.out.later HBk.out) i hlt
          subst hgo
          obtain ⟨g2, off2, hgo2, b0, b1⟩ := (HE.out.later HBk.out) k (Nat.lt_trans hki hlt)
          injection hgo2 with hgo2
          injection hgo2 with hgo2 hgo3
          subst hgo2
          subst hgo3
          have HVI := Lib.hid (validP_mem HVE.out hlt)
          have HVK := Lib.hid (validP_mem HVE.out (Nat.lt_trans hki hlt))
          obtain ⟨pi, hpi⟩ : ∃ q, E.getD i Ps.zero = q := ⟨_, rfl⟩
          obtain ⟨pk, hpk⟩ : ∃ q, E.getD k Ps.zero = q := ⟨_, rfl⟩
          rw [hpi] at a0 HVI
          rw [hpk] at b0 HVK
          have HPI := Lib.hid hpi
          have HPK := Lib.hid hpk
          have HA0 := Lib.hid a0
          have HB0 := Lib.hid b0
          obtain ⟨dn, hdn⟩ : ∃ d : Nat, Go.Proofs.YtmcodendnpjlaaaDoor.E (bs pi.s) (bs pk.s) = d := ⟨_, rfl⟩
          have HDV := Lib.hid (show distV pi.s pk.s = .tuple #[.int .i64 (dn : Int), .int .i64 0] from by unfold distV; rw [if_pos (by rw [HVI.out, HVK.out]; rfl), hdn])
          have HDN := Lib.hid hdn
          have HTB := Lib.hid (HT.out.below HBk.out)
          clear hpi hpk a0 a1 b0 b1 hdn
          go_wp2_with fail
          refine wp_region_B 16 (fun w'' => Below wr.heap.size wr w'') mixed (by kernel_rfl) (below_closed wr) (Below.refl _ _).drew ?_
          simp only [List.take_succ_cons, List.take_zero, List.drop_succ_cons, List.drop_zero]
          intro KR hR
          have HR := Lib.hid hR
          clear hR
          have HCC := Lib.hid (show ∀ w'', Below wr.heap.size wr w'' → w''.cell? ⟨g, off + i * 2, none⟩ = some (.string pi.s) ∧ w''.cell? ⟨g, off + k * 2, none⟩ = some (.string pk.s) from fun w'' hw => ⟨cell_kept hw HA0.out, cell_kept hw HB0.out⟩)
          apply wpB_val rfl
          · (intro w' hw'; go_simp; with_reducible rfl)
          simp only [Act.put, List.setIfInBounds_toArray, List.set_cons_zero, List.set_cons_succ]
          apply wpB_val rfl
          · (intro w' hw'; go_simp; with_reducible rfl)
          simp only [Act.put, List.setIfInBounds_toArray, List.set_cons_zero, List.set_cons_succ]
          apply wpB_val rfl
          · (intro w' hw'; go_simp; with_reducible rfl)
          simp only [Act.put, List.setIfInBounds_toArray, List.set_cons_zero, List.set_cons_succ]
          apply wpB_val rfl
          · (intro w' hw'; go_simp; with_reducible rfl)
          simp only [Act.put, List.setIfInBounds_toArray, List.set_cons_zero, List.set_cons_succ]
          apply wpB_val rfl
          · (intro w' hw'; obtain ⟨c0, c1⟩ := HCC.out w' hw'; go_simp; with_reducible rfl)
          simp only [Act.put, List.setIfInBounds_toArray, List.set_cons_zero, List.set_cons_succ]
          apply wpB_val rfl
          · (intro w' hw'; go_simp; with_reducible rfl)
          simp only [Act.put, List.setIfInBounds_toArray, List.set_cons_zero, List.set_cons_succ]
          apply wpB_val rfl
          · (intro w' hw'; go_simp; with_reducible rfl)
          simp only [Act.put, List.setIfInBounds_toArray, List.set_cons_zero, List.set_cons_succ]
          apply wpB_val rfl
          · (intro w' hw'; go_simp; with_reducible rfl)
          simp only [Act.put, List.setIfInBounds_toArray, List.set_cons_zero, List.set_cons_succ]
          apply wpB_val rfl
          · (intro w' hw'; go_simp; with_reducible rfl)
          simp only [Act.put, List.setIfInBounds_toArray, List.set_cons_zero, List.set_cons_succ]
          apply wpB_val rfl
          · (intro w' hw'; obtain ⟨c0, c1⟩ := HCC.out w' hw'; go_simp; with_reducible rfl)
          simp only [Act.put, List.setIfInBounds_toArray, List.set_cons_zero, List.set_cons_succ]
          apply wpB_call 22 #[.string pi.s, .string pk.s] rfl (v := .tuple #[.int .i64 (dn : Int), .int .i64 0])
          · (intro w'; go_simp)
          · exact fun w' hw' => (HDV.out ▸ Distance_any pi.s pk.s w' (HTB.out.below hw'))
          simp only [Act.put, List.setIfInBounds_toArray, List.set_cons_zero, List.set_cons_succ]
          apply wpB_val rfl
          · (intro w' hw'; go_simp; with_reducible rfl)
          simp only [Act.put, List.setIfInBounds_toArray, List.set_cons_zero, List.set_cons_succ]
          apply wpB_val rfl
          · (intro w' hw'; go_simp; with_reducible rfl)
          simp only [Act.put, List.setIfInBounds_toArray, List.set_cons_zero, List.set_cons_succ]
          apply wpB_val rfl
          · (intro w' hw'; go_simp; with_reducible rfl)
          simp only [Act.put, List.setIfInBounds_toArray, List.set_cons_zero, List.set_cons_succ]
          apply wpB_val rfl
          · (intro w' hw'; go_simp; with_reducible rfl)
          simp only [Act.put, List.setIfInBounds_toArray, List.set_cons_zero, List.set_cons_succ]
          apply wpB_val rfl
          · (intro w' hw'; go_simp; with_reducible rfl)
          simp only [Act.put, List.setIfInBounds_toArray, List.set_cons_zero, List.set_cons_succ]
          refine wpB_nil (HR.out _ (fun w2 hw2 => ?_))
          clear HR HCC
          have HB3 := Lib.hid (below_step HBk.out hw2)
          clear hw2 HA0 HB0 HTB HDV
          by_cases h4 : dn < 4
          · have hd4 : decide ((dn : Int) < 4) = true := decide_eq_true (Int.ofNat_lt.2 h4)
            have hd5 : decide (dn < 4) = true := decide_eq_true h4
            clear h4
            go_wp2
            go_ret
            exact ⟨rfl, HB3.out⟩
          · have hd4 : decide ((dn : Int) < 4) = false := decide_eq_false (fun e => h4 (Int.ofNat_lt.1 e))
            have hd5 : decide (dn < 4) = false := decide_eq_false h4
            have HNE := Lib.hid (show 4 ≤ Go.Proofs.YtmcodendnpjlaaaDoor.E (bs (E.getD i Ps.zero).s) (bs (E.getD k Ps.zero).s) by rw [HPI.out, HPK.out, HDN.out]; exact Nat.not_lt.1 h4)
            clear h4
            go_wp2
            go_roundw
            case rel => exact ⟨k + 1, HTW.out.nk, by go_num, HB3.out, fun b hb => by
              by_cases e : b = k
              · subst e; exact HNE.out
              · exact HDK.out b (Nat.lt_of_le_of_ne (Nat.le_of_lt_succ hb) e)⟩
            case measure => simp [intOf]; omega
        · obtain rfl : k = i := Nat.le_antisymm hk (Nat.not_lt.1 hki)
          have HNX := Lib.hid (far_next HDF.out HDK.out)
          go_wp2
          go_roundw
          case rel => exact ⟨k + 1, HI1.out, by go_num, HBk.out, HNX.out⟩
          case measure => simp [intOf]; omega
    · obtain rfl : i = E.length := Nat.le_antisymm hi (Nat.not_lt.1 hlt)
      go_wp2_with fail
      refine (exitsOf_any oe oo ce co E ord _ (HE.out.later HB.out) (HO.out.later HB.out) HE8.out (validP_bounds HVE.out) hol).mono ?_
      rintro _ W3 ⟨of, M, o1, o2, c1, c2, rfl, hxr, hpm, hmj, hm0, hm1⟩
      have HXR := Lib.hid hxr
      have HXF := Lib.hid (show ExF E of M from ⟨hpm, hmj⟩)
      have HN := Lib.hid (show of.length = E.length from by have := hpm.length_eq; rwa [List.length_range] at this)
      have HB3 := Lib.hid (below_step HB.out hxr.below)
      have HMI := Lib.hid (misI HPOS.out HWH.out)
      have HBS := Lib.hid HB.out.size
      clear hxr hpm hmj hm0 hm1 HB
      have HROW := Lib.hid (show Row wr W3 35 2 (.slice o1 E.length c1) (outL E M of).length (flatPs (outL E M of)) from ⟨HXR.out.ro, HXR.out.below⟩)
      obtain ⟨GB, capB, e1, hGB, _⟩ := Row.some_of HROW.out (by rw [outL_len, HN.out]; exact HPOS.out)
      injection e1 with e2 e3 e4
      subst e2
      have HFRZ := Lib.hid (show ∀ r, W3.frozen? ⟨GB, r * 2, none⟩ = false from fun r => by have h := HXR.out.ro; rw [e3] at h; exact h.frozenAt (r * 2))
      have HXO := Lib.hid HXR.out.outs
      have HDIS := Lib.hid (show ∀ a, o2 = some a → a.block ≠ GB from fun a ha e => by
        subst ha
        exact HXR.out.dis GB rfl (by rw [← e]; rfl))
      have HGB := Lib.hid (Nat.le_trans HBS.out hGB)
      have HGL := Lib.hid (cell_lt (HXO.out.1.at (i := 0) (by rw [outL_len, HN.out]; exact HPOS.out)).1)
      clear hGB e3 e4 HROW HXR
      have z1 := HMI.out.y1
      have z2 := HMI.out.y2
      have z3 := HMI.out.ne
      have z4 := HMI.out.ne2
      have z5 := HMI.out.rem
      have HRL := Lib.hid HMI.out.lt
      obtain ⟨r, hr⟩ : ∃ r, which % E.length = r := ⟨_, rfl⟩
      rw [hr] at z1 z2 z5 HRL
      clear hr HMI
      have HRO := Lib.hid (show r < of.length by rw [HN.out]; exact HRL.out)
      have HS0 := Lib.hid (HXO.out.1.at (i := r) (by rw [outL_len]; exact HRO.out)).1
      have HFR := Lib.hid (show W3.frozen? ⟨GB, r * 2, none⟩ = false from HFRZ.out r)
      have HSV := Lib.hid (show validS ((outL E M of).getD r Ps.zero).s = true ∧ ((outL E M of).getD r Ps.zero).s = (E.getD (of.getD r 0) Ps.zero).s from by
        rw [outL_get HRO.out]
        exact ⟨validP_mem HVE.out (by
          have : of.getD r 0 ∈ of := by rw [List.getD_eq_getElem?_getD, List.getElem?_eq_getElem HRO.out]; exact List.getElem_mem HRO.out
          exact List.mem_range.1 (HXF.out.perm.mem_iff.1 this)), rfl⟩)
      obtain ⟨st, hst⟩ : ∃ s, ((outL E M of).getD r Ps.zero).s = s := ⟨_, rfl⟩
      rw [hst] at HS0 HSV
      have HST6 := Lib.hid (show ∀ w', Pss w' (some ⟨GB, 0, none⟩) (outL E M of) → w'.cell? ⟨GB, r * 2, none⟩ = some (.string st) from fun w' h => hst ▸ (h.at (i := r) (by rw [outL_len]; exact HRO.out)).1)
      clear hst
      have s0 := HS0.out
      have HSB := Lib.hid (validS_size HSV.out.1)
      have kc := Lib.run_convert_string_bytes (P := Tryd.prog) W3 9 33 5 st Tryd.underlying9 Tryd.underlying33 Tryd.underlying5
      go_upto_region 18 with (fail)
      clear kc s0 z1 z2 z3 z4 z5
      have HD2 := Lib.hid (show ∀ a, o2 = some a → a.block < W3.heap.size from fun a ha => by
        obtain ⟨b, off, hb, hcc⟩ := HXO.out.2 r (by rw [toN_len]; exact HRO.out)
        rw [ha] at hb
        injection hb with hb
        subst hb
        have hlt := cell_lt hcc
        exact hlt)
      have HB34 := Lib.hid (bytesBelow W3 st)
      have HBY := Lib.hid (bytesA W3 st)
      generalize Lib.bytesWorld W3 5 st = W4 at HB34 HBY ⊢
      generalize grownCap W3 st.size 0 5 = capR
      obtain ⟨RB, hRB⟩ : ∃ b, W3.heap.size = b := ⟨_, rfl⟩
      have HRB := Lib.hid (show GB < RB ∧ w.heap.size ≤ RB from hRB ▸ ⟨HGL.out, HB3.out.size⟩)
      rw [hRB] at HBY HD2 ⊢
      clear hRB
      have HB4 := Lib.hid (below_step HB3.out HB34.out)
      have HMA := Lib.hid (misI (x := at') (n := st.size) HSB.out.1 HAT.out)
      have z1 := HMA.out.y1
      have z2 := HMA.out.y2
      have z3 := HMA.out.ne
      have z4 := HMA.out.ne2
      have z5 := HMA.out.rem
      have z6 := HMA.out.rem3
      have z7 : ¬ st = ByteArray.empty := fun e => by have := HSB.out.1; rw [e] at this; exact absurd this (by decide)
      have HQL := Lib.hid HMA.out.lt
      obtain ⟨q, hq⟩ : ∃ q, at' % st.size = q := ⟨_, rfl⟩
      rw [hq] at z1 z2 z5 z6 HQL
      clear hq HMA
      have HQB := Lib.hid (show q < (bs st).length by rw [bs_length]; exact HQL.out)
      obtain ⟨c, hc⟩ : ∃ c, (bs st).getD q 0 = c := ⟨_, rfl⟩
      have HQ0 := Lib.hid (show W4.cell? ⟨RB, q, none⟩ = some (.int .u8 (c : Int)) from hc ▸ (HBY.out q HQB.out).1)
      clear hc

      refine wp_region_B 16 (fun w'' => Below W4.heap.size W4 w'') mixed (by kernel_rfl) (below_closed W4) (Below.refl _ _).drew ?_
      simp only [List.take_succ_cons, List.take_zero, List.drop_succ_cons, List.drop_zero]
      intro KR hR
      have HR := Lib.hid hR
      clear hR
      have HCC := Lib.hid (show ∀ w'', Below W4.heap.size W4 w'' → w''.cell? ⟨RB, q, none⟩ = some (.int .u8 (c : Int)) from fun w'' hw => cell_kept hw HQ0.out)
      apply wpB_val rfl
      · (intro w' hw'; go_simp; with_reducible rfl)
      simp only [Act.put, List.setIfInBounds_toArray, List.set_cons_zero, List.set_cons_succ]
      apply wpB_val rfl
      · (intro w' hw'; go_simp; with_reducible rfl)
      simp only [Act.put, List.setIfInBounds_toArray, List.set_cons_zero, List.set_cons_succ]
      apply wpB_val rfl
      · (intro w' hw'; go_simp; with_reducible rfl)
      simp only [Act.put, List.setIfInBounds_toArray, List.set_cons_zero, List.set_cons_succ]
      apply wpB_val rfl
      · (intro w' hw'; go_simp; with_reducible rfl)
      simp only [Act.put, List.setIfInBounds_toArray, List.set_cons_zero, List.set_cons_succ]
      apply wpB_val rfl
      · (intro w' hw'; go_simp; with_reducible rfl)
      simp only [Act.put, List.setIfInBounds_toArray, List.set_cons_zero, List.set_cons_succ]
      apply wpB_val rfl
      · (intro w' hw'; go_simp; with_reducible rfl)
      simp only [Act.put, List.setIfInBounds_toArray, List.set_cons_zero, List.set_cons_succ]
      apply wpB_val rfl
      · (intro w' hw'; go_simp; with_reducible rfl)
      simp only [Act.put, List.setIfInBounds_toArray, List.set_cons_zero, List.set_cons_succ]
      apply wpB_val rfl
      · (intro w' hw'; go_simp; with_reducible rfl)
      simp only [Act.put, List.setIfInBounds_toArray, List.set_cons_zero, List.set_cons_succ]
      apply wpB_val rfl
      · (intro w' hw'; go_simp; with_reducible rfl)
      simp only [Act.put, List.setIfInBounds_toArray, List.set_cons_zero, List.set_cons_succ]
      apply wpB_val rfl
      · (intro w' hw'; go_simp; with_reducible rfl)
      simp only [Act.put, List.setIfInBounds_toArray, List.set_cons_zero, List.set_cons_succ]
      apply wpB_val rfl
      · (intro w' hw'; go_simp; with_reducible rfl)
      simp only [Act.put, List.setIfInBounds_toArray, List.set_cons_zero, List.set_cons_succ]
      apply wpB_val rfl
      · (intro w' hw'; go_simp; with_reducible rfl)
      simp only [Act.put, List.setIfInBounds_toArray, List.set_cons_zero, List.set_cons_succ]
      apply wpB_val rfl
      · (intro w' hw'; go_simp; with_reducible rfl)
      simp only [Act.put, List.setIfInBounds_toArray, List.set_cons_zero, List.set_cons_succ]
      apply wpB_val rfl
      · (intro w' hw'; have c0 := HCC.out w' hw'; go_simp; with_reducible rfl)
      simp only [Act.put, List.setIfInBounds_toArray, List.set_cons_zero, List.set_cons_succ]
      apply wpB_call 23 #[.int .u8 (c : Int)] rfl (v := .int .u8 (twin c : Nat))
      · (intro w'; go_simp)
      · exact fun w' hw' => Twin_any c w'
      simp only [Act.put, List.setIfInBounds_toArray, List.set_cons_zero, List.set_cons_succ]
      apply wpB_val rfl
      · (intro w' hw'; go_simp; with_reducible rfl)
      simp only [Act.put, List.setIfInBounds_toArray, List.set_cons_zero, List.set_cons_succ]
      refine wpB_nil (HR.out _ (fun w2 hw2 => ?_))
      clear HR HCC
      have HB5 := Lib.hid (below_step HB4.out hw2)
      have HY5 := Lib.hid (HBY.out.later hw2)
      have HX5 := Lib.hid ((HXO.out.1.later HB34.out).later hw2)
      have HI5 := Lib.hid ((HXO.out.2.later HB34.out).later hw2)
      have HF5 := Lib.hid (show w2.frozen? ⟨GB, r * 2, none⟩ = false from ((hw2.frozen (p := ⟨GB, r * 2, none⟩) (Nat.lt_of_lt_of_le HGL.out HB34.out.size)).trans (HB34.out.frozen (p := ⟨GB, r * 2, none⟩) HGL.out)).trans HFR.out)
      clear hw2 HB34 HBY HQ0 HXO HFR HB4 z3 z4 z5 z6 z7
      have u0 := (HY5.out q HQB.out).1
      have uf := (HY5.out q HQB.out).2
      have HY6 := Lib.hid (BytA.set (c := twin c) HY5.out (q := q))
      have HB6 := Lib.hid (HB5.out.setCell (p := ⟨RB, q, none⟩) HRB.out.2 (.int .u8 (twin c : Nat)))
      have HX6 := Lib.hid (Pss.set_other (g := RB) (j := q) (u := .int .u8 (twin c : Nat)) HX5.out (fun a ha => by injection ha with ha; subst ha; exact Nat.ne_of_lt HRB.out.1))
      have HI6 := Lib.hid (Ints.set_other (g := RB) (j := q) (u := .int .u8 (twin c : Nat)) HI5.out (fun a ha => Nat.ne_of_lt (HD2.out a ha)))
      have HF6 := Lib.hid (show (w2.setCell ⟨RB, q, none⟩ (.int .u8 (twin c : Nat))).frozen? ⟨GB, r * 2, none⟩ = false from by simpa using HF5.out)
      go_upto_region 19 with (fail)
      generalize w2.setCell ⟨RB, q, none⟩ (.int .u8 (twin c : Nat)) = W6 at HY6 HB6 HX6 HI6 HF6 ⊢
      clear u0 uf HY5 HB5 HX5 HI5 HF5 z1 z2
      have HLR := Lib.hid (show ((bs st).set q (twin c)).length = st.size by rw [List.length_set, bs_length])
      obtain ⟨rl, hrl⟩ : ∃ l, (bs st).set q (twin c) = l := ⟨_, rfl⟩
      rw [hrl] at HY6 HLR
      clear hrl
      obtain ⟨rs, hrs⟩ : ∃ s, strOfNums (rl.map fun (n : Nat) => (n : Int)) = s := ⟨_, rfl⟩
      have HRS := Lib.hid (show rs.size ≤ 9223372036854775807 by rw [← hrs, strOfNums_size, List.length_map, HLR.out]; have := HSB.out.2; omega)
      have HCV := Lib.hid (show ∀ w'', Below W6.heap.size W6 w'' → (convert 33 9 (.slice (some ⟨RB, 0, none⟩) st.size capR)).run Tryd.prog w'' = .ok (.string rs) w'' from fun w'' hb => by
        have h := (HY6.out.later hb).conv (P := Tryd.prog) Tryd.underlying33 Tryd.underlying5 Tryd.underlying9 capR
        rw [HLR.out, hrs] at h
        exact h)
      clear hrs HY6
      have HS6 := Lib.hid (show W6.cell? ⟨GB, r * 2, none⟩ = some (.string st) from HST6.out W6 HX6.out)
      have HTB6 := Lib.hid (HT.out.below HB6.out)
      obtain ⟨dI, eI, hde, hd1⟩ := distV_cases st rs
      have HDE := Lib.hid hde
      have HD1 := Lib.hid hd1
      clear hde hd1

      refine wp_region_B 12 (fun w'' => Below W6.heap.size W6 w'') mixed (by kernel_rfl) (below_closed W6) (Below.refl _ _).drew ?_
      simp only [List.take_succ_cons, List.take_zero, List.drop_succ_cons, List.drop_zero]
      intro KR hR
      have HR := Lib.hid hR
      clear hR
      have HCC := Lib.hid (show ∀ w'', Below W6.heap.size W6 w'' → w''.cell? ⟨GB, r * 2, none⟩ = some (.string st) ∧ (convert 33 9 (.slice (some ⟨RB, 0, none⟩) st.size capR)).run Tryd.prog w'' = .ok (.string rs) w'' from fun w'' hw => ⟨cell_kept hw HS6.out, HCV.out w'' hw⟩)
      apply wpB_val rfl
      · (intro w' hw'; go_simp; with_reducible rfl)
      simp only [Act.put, List.setIfInBounds_toArray, List.set_cons_zero, List.set_cons_succ]
      apply wpB_val rfl
      · (intro w' hw'; go_simp; with_reducible rfl)
      simp only [Act.put, List.setIfInBounds_toArray, List.set_cons_zero, List.set_cons_succ]
      apply wpB_val rfl
      · (intro w' hw'; go_simp; with_reducible rfl)
      simp only [Act.put, List.setIfInBounds_toArray, List.set_cons_zero, List.set_cons_succ]
      apply wpB_val rfl
      · (intro w' hw'; obtain ⟨c0, c1⟩ := HCC.out w' hw'; go_simp; with_reducible rfl)
      simp only [Act.put, List.setIfInBounds_toArray, List.set_cons_zero, List.set_cons_succ]
      apply wpB_val rfl
      · (intro w' hw'; go_simp; with_reducible rfl)
      simp only [Act.put, List.setIfInBounds_toArray, List.set_cons_zero, List.set_cons_succ]
      apply wpB_val rfl
      · (intro w' hw'; obtain ⟨c0, c1⟩ := HCC.out w' hw'; go_simp; with_reducible rfl)
      simp only [Act.put, List.setIfInBounds_toArray, List.set_cons_zero, List.set_cons_succ]
      apply wpB_call 22 #[.string st, .string rs] rfl (v := .tuple #[.int .i64 dI, .int .i64 eI])
      · (intro w'; go_simp)
      · exact fun w' hw' => (HDE.out ▸ Distance_any st rs w' (HTB6.out.below hw'))
      simp only [Act.put, List.setIfInBounds_toArray, List.set_cons_zero, List.set_cons_succ]
      apply wpB_val rfl
      · (intro w' hw'; go_simp; with_reducible rfl)
      simp only [Act.put, List.setIfInBounds_toArray, List.set_cons_zero, List.set_cons_succ]
      apply wpB_val rfl
      · (intro w' hw'; go_simp; with_reducible rfl)
      simp only [Act.put, List.setIfInBounds_toArray, List.set_cons_zero, List.set_cons_succ]
      apply wpB_val rfl
      · (intro w' hw'; go_simp; with_reducible rfl)
      simp only [Act.put, List.setIfInBounds_toArray, List.set_cons_zero, List.set_cons_succ]
      apply wpB_val rfl
      · (intro w' hw'; go_simp; with_reducible rfl)
      simp only [Act.put, List.setIfInBounds_toArray, List.set_cons_zero, List.set_cons_succ]
      apply wpB_val rfl
      · (intro w' hw'; go_simp; with_reducible rfl)
      simp only [Act.put, List.setIfInBounds_toArray, List.set_cons_zero, List.set_cons_succ]
      refine wpB_nil (HR.out _ (fun w2 hw2 => ?_))
      clear HR HCC
      have HB7 := Lib.hid (below_step HB6.out hw2)
      have HX7 := Lib.hid (HX6.out.later hw2)
      have HI7 := Lib.hid (HI6.out.later hw2)
      have HC7 := Lib.hid (HCV.out w2 hw2)
      have HS7 := Lib.hid (cell_kept hw2 HS6.out)
      have HF7 := Lib.hid ((hw2.frozen (p := ⟨GB, r * 2, none⟩) (cell_lt HS6.out)).trans HF6.out)
      clear hw2 HX6 HI6 HCV HS6 HF6 HTB6 HB6
      by_cases he0 : eI = 0
      rotate_left
      · have hb1 : (eI != 0) = true := by simpa using he0
        clear he0
        go_wp2
        go_ret
        exact ⟨rfl, HB7.out⟩
      by_cases hd1 : dI = 1
      rotate_left
      · have hb1 : (eI != 0) = false := by simpa using he0
        have hb2 : (dI != 1) = true := by simpa using hd1
        clear he0 hd1
        go_wp2
        go_ret
        exact ⟨rfl, HB7.out⟩
      have HE1 := Lib.hid (HD1.out he0 hd1)
      subst he0
      subst hd1
      have c7 := HC7.out
      have s7 := HS7.out
      have f7 := HF7.out
      have HX8 := Lib.hid (show Pss (w2.setCell ⟨GB, r * 2, none⟩ (.string rs)) (some ⟨GB, 0, none⟩) (misL E M of r rs) from by
        have h := HX7.out.set (r := r) rs
        rw [outL_get HRO.out] at h
        exact h)
      have HI8 := Lib.hid (Ints.set_other (g := GB) (j := r * 2) (u := .string rs) HI7.out HDIS.out)
      have HB8 := Lib.hid (HB7.out.setCell (p := ⟨GB, r * 2, none⟩) HGB.out (.string rs))
      go_upto_region 23 with (fail)
      generalize w2.setCell ⟨GB, r * 2, none⟩ (.string rs) = W8 at HX8 HI8 HB8 ⊢
      clear c7 s7 f7 HX7 HI7 HC7 HS7 HF7 HB7
      have HML := Lib.hid (show (misL E M of r rs).length = E.length by rw [misL_len, HN.out])
      have HRV := RValidL_any (some ⟨GB, 0, none⟩) c1 (misL E M of r rs) W8 HX8.out (by rw [HML.out]; exact HLE.out) (misL_sz HES.out HRS.out)
      rw [HML.out] at HRV
      have HRV' := Lib.hid HRV
      clear HRV
      go_wp2_with fail
      refine HRV'.out.mono ?_
      rintro _ W9 ⟨rfl, hb⟩
      have HB9 := Lib.hid (below_step HB8.out hb)
      have HX9 := Lib.hid (HX8.out.later hb)
      have HI9 := Lib.hid (HI8.out.later hb)
      clear hb HB8 HX8 HI8 HRV'
      cases hvx : validP (misL E M of r rs) with
      | false =>
        go_wp2
        go_ret
        exact ⟨rfl, HB9.out⟩
      | true =>
      have HRB2 := Lib.hid (misread_best HXF.out HVE.out HRO.out hvx (fun i k hi hk => HDF.out i hi k hk) (by rw [← HSV.out.2]; exact HE1.out))
      have HMC := Match_any oe (some ⟨GB, 0, none⟩) ce c1 E (misL E M of r rs) W9 (HE.out.later HB9.out) HX9.out (HT.out.below HB9.out) HLE.out (by rw [HML.out]; exact HLE.out)
      rw [HML.out] at HMC
      have HMC' := Lib.hid HMC
      have HVX := Lib.hid hvx
      clear HMC hvx
      go_wp2_with fail
      refine HMC'.out.mono ?_
      rintro _ Wa ⟨hb, ⟨hv, oA, cA, rfl, hta⟩ | ⟨hv, _⟩⟩
      rotate_left
      · rw [HVE.out, HVX.out] at hv
        cases hv
      have HBa := Lib.hid (below_step HB9.out hb)
      have HAa := Lib.hid hta
      have HIa := Lib.hid (HI9.out.later hb)
      clear hb hta hv HB9 HX9 HI9 HMC'
      obtain ⟨F, hF⟩ : ∃ F, best E (misL E M of r rs) = F := ⟨_, rfl⟩
      rw [hF] at HRB2 HAa ⊢
      clear hF
      have hcost := HRB2.out.1
      have HPL := Lib.hid (HRB2.out.2.1.trans HN.out.symm)
      have HPA := paired_any oA o2 cA c2 (toI F.pairs) of Wa HAa.out HIa.out (by rw [toI_length]; exact HPL.out) (by rw [HN.out]; exact HE8.out) (by rw [HN.out]; exact HRB2.out.2.2)
      rw [HN.out] at HPA
      have HPA' := Lib.hid HPA
      have hpl := HRB2.out.2.1
      clear HPA
      go_wp2_with fail
      refine HPA'.out.mono ?_
      rintro _ Wb ⟨rfl, hb⟩
      have HBb := Lib.hid (below_step HBa.out hb)
      clear hb HBa HPA'
      go_wp2
      go_ret
      exact ⟨rfl, HBb.out⟩
end Go.Proofs.YtmcodendnpjlaaaDoor