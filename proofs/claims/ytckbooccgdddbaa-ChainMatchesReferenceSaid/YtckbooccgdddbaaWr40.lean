/- Chapter 40: the reference's Append. -/
import Derived.Test.YtckbooccgdddbaaWp40
import Derived.Test.YtckbooccgdddbaaWs40
namespace Go.Proofs.Ytckbooccgdddbaa
open Go.RowKit
attribute [local go_sem] Oper.semAt_some

theorem Grow.row {w2 wr : World} {e : TypeId} {size : Nat} {t : TypeId} {cs : Array Value} {v : Value} {n : Nat} {xs : List Value} (h : Grow w2 wr e size t cs v n xs) : Row w2 wr e size v n xs := by
  refine ⟨⟨h.own.1, ?_⟩, h.below⟩
  rcases h.own.2 with h0 | ⟨g, cap, cur, hv, hg, h2⟩
  · exact .inl h0
  · exact .inr ⟨g, cap, cur, hv, by omega, h2⟩

/-- append(s, x), one element, beside a box of the call's own. -/
theorem wp_append1G {P : Program} {w2 wr : World} {t e : TypeId} {size bytes : Nat} {v : Value} {n : Nat} {xs news : List Value} {tb : TypeId} {cs : Array Value} {ops : Array Oper} {rest : List Oper} {o : Oper} {a : Act} {Q : Exit → Act → World → Prop} (hI : ElemI P t e size bytes) (hG : Grow w2 wr e size tb cs v n xs)
    (hn : n + 1 ≤ 1000000000) (hb : bytes ≤ 100000) (hlen : news.length = size) (h1 : ∀ u ∈ news, u.oneCell' = true)
    (hgd : o.guard = none) (s x : Operand) (ho : o.op = .call { callee := .builtin .append, args := #[s, x], argTypes := #[t, t] }) (hs : a.eval s = v) {B : Nat} (hB : B = wr.heap.size) (hx : a.eval x = .slice (some ⟨B, 0, none⟩) 1 1)
    (h : ∀ v' w', Grow w2 w' e size tb cs v' (n + 1) (xs ++ news) → wpList P ops Q rest (a.put o.dst v') w') : wpList P ops Q (o :: rest) a (wr.alloc (.cells news.toArray e)) := by
  subst hB
  obtain ⟨i, z, hi, hz, h2, h3, h4⟩ := hI.info
  refine wpList_append_own (wr.alloc (.cells news.toArray e)) hgd s x t ho (w2.heap.size + 1) e i z size bytes hI.under hi hz h2 h3 h4 hI.pos v n xs hs (hG.own.alloc _) ⟨wr.heap.size, 0, none⟩ 1 1 news hx (by rw [hlen, Nat.one_mul]) ?_ h1 ?_ ?_ ?_ ?_
  · intro j u hj
    have := (Blk.new wr e news.toArray).cell j
    unfold Addr.add
    split
    · rename_i h0
      subst h0
      exact this.trans (by simpa using hj)
    · show World.cell? _ ⟨wr.heap.size, 0 + j, none⟩ = _
      rw [Nat.zero_add]
      exact this.trans (by simpa using hj)
  · simp only [maxLen]; omega
  · have := Nat.mul_le_mul hn hb
    omega
  · rw [World.size_alloc]
    have := hG.base
    omega
  · intro v' w' hown hgrow _
    exact h v' w' ((hG.alloc _).app hown hgrow)

theorem Row.rds' {w2 wr : World} {g cap n : Nat} {l : List Rd} (h : Row w2 wr 25 5 (.slice (some ⟨g, 0, none⟩) n cap) n (flat l)) (hn : l.length = n) : Rds wr (some ⟨g, 0, none⟩) l := by
  subst hn
  exact h.rds

theorem flat_ap {seed : Nat} {l : List Rd} {s m r : Int} {hs : seed < 18446744073709551616} {x : Rd} {z : Nat} (hx : newRd l s m r = x) (hz : stAt seed l l.length = z) :
    flat l ++ [Value.int .i64 s, .int .i64 ((l.length : Int) + 1), .int .i64 m, .int .i64 r, .int .u64 (link z x : Nat)] = flat (l ++ [apRd seed l s m r hs]) := by
  subst hx
  subst hz
  rw [flat_append, flat_one]
  rfl
theorem stAt_first (seed : Nat) {l : List Rd} (h0 : l.length = 0) : stAt seed l l.length = seed := by rw [h0]; rfl
theorem stAt_last (seed : Nat) {l : List Rd} (h0 : 0 < l.length) : stAt seed l l.length = (getR l (l.length - 1)).k := by
  unfold stAt prevAt
  rw [if_neg (by omega), getR_some (by omega)]
theorem prevAt_last {l : List Rd} (h0 : 0 < l.length) : prevAt l l.length = some (getR l (l.length - 1)) := by
  unfold prevAt
  rw [if_neg (by omega), getR_some (by omega)]

theorem flat_take {l : List Rd} {k : Nat} (h : k < l.length) : flat (l.take (k + 1)) = flat (l.take k) ++ rdC (getR l k) := by
  rw [List.take_succ_eq_append_getElem h, flat_append, flat_one, getR_eq h]

set_option maxRecDepth 100000 in
set_option maxHeartbeats 4000000 in
theorem refAppend_any (seed : Nat) (o : Option Addr) (cap : Nat) (l : List Rd) (s m r : Int) (w : World) (hs : seed < 18446744073709551616) (hr : Rds w o l) (hl : l.length ≤ 9223372036854775807) :
    Calls Try.prog 13 #[.int .u64 (seed : Nat), .slice o l.length cap, .int .i64 s, .int .i64 m, .int .i64 r] w (AppOut seed l s m r hs w) := by
  have HR := Lib.hid hr
  clear hr
  go_enter Try.func13, Try.ntmps13
  go_wp2_with fail
  refine (refCheck_any seed o cap l w hs HR.out hl).mono ?_
  rintro e w1 ⟨rfl, hb1⟩
  have HB1 := Lib.hid hb1
  clear hb1
  by_cases hc : chk seed l = -1
  rotate_left
  · have hcb : (chk seed l == -1) = false := by simpa using hc
    have HE := Lib.hid (show apErr seed l s m r = 11 by
      unfold apErr
      rw [if_pos]
      rcases chk_is seed l with ⟨e, _⟩ | ⟨k, _, e, _⟩
      · exact absurd e hc
      · omega)
    go_wp2
    exact bodyPost_ret (v := .tuple #[.slice none 0 0, .int .i64 11]) (by simp [results, Try.results13, go_sem]) rfl ⟨HB1.out, .inl ⟨by rw [HE.out]; decide, by rw [HE.out]⟩⟩
  have hc0 : ¬ 0 ≤ chk seed l := by rw [hc]; decide
  have hlen := chk_len hc0
  rw [hc]
  by_cases h64 : l.length = 64
  · have h64' : (l.length : Int) = 64 := by omega
    have HE := Lib.hid (show apErr seed l s m r = 10 by unfold apErr; rw [if_neg hc0, if_pos h64])
    go_wp2
    exact bodyPost_ret (v := .tuple #[.slice none 0 0, .int .i64 10]) (by simp [results, Try.results13, go_sem]) rfl ⟨HB1.out, .inl ⟨by rw [HE.out]; decide, by rw [HE.out]⟩⟩
  have h64b : ((l.length : Int) == 64) = false := by rw [beq_eq_false_iff_ne]; omega
  have hnw : newRd l s m r = ⟨s, (l.length : Int) + 1, m, r, 0, by decide⟩ := by
    unfold newRd
    have : IntKind.i64.wrap ((l.length : Int) + 1) = (l.length : Int) + 1 := IntWalk.i64_in _ (by omega)
    simp only [this]
  obtain ⟨x, hx⟩ : ∃ x : Rd, newRd l s m r = x := ⟨_, rfl⟩
  have HV := Lib.hid (fun W => refValid_any x W)
  have HA1 := Lib.hid (show validR x = false → apErr seed l s m r = 1 from fun hv => by unfold apErr; rw [if_neg hc0, if_neg h64, hx, if_pos hv])
  have HA2 := Lib.hid (show validR x = true → l.length = 0 → apErr seed l s m r = 0 from fun hv h0 => by
    unfold apErr
    rw [if_neg hc0, if_neg h64, hx, if_neg (by rw [hv]; decide)]
    unfold prevAt
    rw [if_pos h0])
  have HA3 := Lib.hid (show ∀ y, validR x = true → 0 < l.length → getR l (l.length - 1) = y → apErr seed l s m r = if oldR y x then 12 else if laterR y x then 6 else 0 from fun y hv h0 hy => by
    unfold apErr
    rw [if_neg hc0, if_neg h64, hx, if_neg (by rw [hv]; decide), prevAt_last h0, hy])
  have HXX := Lib.hid hx
  rw [hnw] at hx
  clear hnw
  have hxs : rdV x = .agg #[.int .i64 s, .int .i64 ((l.length : Int) + 1), .int .i64 m, .int .i64 r, .int .u64 0] := by rw [← hx]; rfl
  rw [hxs] at HV
  go_wp2_with fail
  refine (HV.out _).mono ?_
  clear HV
  rintro e w3 ⟨rfl, hb3⟩
  have HG := Lib.hid ((Grow.new w1 25 5 25 #[.int .i64 s, .int .i64 ((l.length : Int) + 1), .int .i64 m, .int .i64 r, .int .u64 0]).later hb3)
  clear hb3
  cases hv : validR x with
  | false =>
    have HE := Lib.hid (HA1.out hv)
    go_wp2
    exact bodyPost_ret (v := .tuple #[.slice none 0 0, .int .i64 1]) (by simp [results, Try.results13, go_sem]) rfl ⟨below_step HB1.out HG.out.below, .inl ⟨by rw [HE.out]; decide, by rw [HE.out]⟩⟩
  | true =>
    have HV := Lib.hid hv
    have HX := Lib.hid hxs
    clear hv hxs
    go_wp2
    go_loopw [14, 15] (fun v i wr => ∃ k : Nat, k ≤ l.length ∧ i = .int .i64 k ∧ Grow w1 wr 25 5 25 #[.int .i64 s, .int .i64 ((l.length : Int) + 1), .int .i64 m, .int .i64 r, .int .u64 0] v k (flat (l.take k))) (fun _ i _ => l.length - (intOf i).toNat)
    case atStart => exact ⟨0, Nat.zero_le _, rfl, HG.out⟩
    case round =>
      obtain ⟨k, hk, rfl, hg⟩ := hrel
      clear HG
      have HG := Lib.hid hg
      clear hg
      by_cases hlt : k < l.length
      · obtain ⟨b, off, hbo, hy⟩ := (HR.out.later (below_step HB1.out HG.out.below)) k hlt
        subst hbo
        have HFT := Lib.hid (flat_take hlt)
        obtain ⟨y, hye⟩ : ∃ y, getR l k = y := ⟨_, rfl⟩
        rw [hye] at hy HFT
        clear hye
        obtain ⟨c0, c1, c2, c3, c4⟩ := hy
        have z1 : (0 : Int) ≤ (k : Int) := by omega
        have z2 : (k : Int) < (l.length : Int) := by omega
        have HN := Lib.hid (show k + 1 ≤ 1000000000 by omega)
        go_wp2_with (at_builtin; refine wp_append1G (news := rdC y) elemRd HG.out HN.out (by decide) rfl (rdC_one y) rfl _ _ rfl rfl rfl rfl ?_)
        clear c0 c1 c2 c3 c4
        intro v2 w4 hg2
        have HG2 := Lib.hid hg2
        clear hg2
        go_wp2
        go_roundw
        case rel => exact ⟨k + 1, by omega, by go_num, by rw [HFT.out]; exact HG2.out⟩
        case measure => simp [intOf]; omega
      · obtain rfl : k = l.length := by omega
        rw [List.take_of_length_le (Nat.le_refl _)] at HG
        by_cases h0 : l.length = 0
        · have HE := Lib.hid (HA2.out HV.out h0)
          have h0' : ¬ (0 : Int) < (l.length : Int) := by omega
          have HST := Lib.hid (flat_ap (hs := hs) HXX.out (stAt_first seed h0))
          have HLK := Lib.hid (fun W => refLink_any seed x hs W)
          rw [HX.out] at HLK
          have HGL := HG
          clear h0
          have c0 := HG.out.blk.cell 0
          have c1 := HG.out.blk.cell 1
          have c2 := HG.out.blk.cell 2
          have c3 := HG.out.blk.cell 3
          have c4 := HG.out.blk.cell 4
          simp at c0 c1 c2 c3 c4
          go_wp2_with fail
          clear c0 c1 c2 c3 c4
          refine (HLK.out _).mono ?_
          rintro e w5 ⟨rfl, hb5⟩
          have HG5 := Lib.hid (HGL.out.later hb5)
          clear hb5 HLK
          obtain ⟨LK, hLK⟩ : ∃ LK, link seed x = LK := ⟨_, rfl⟩
          rw [hLK] at HST ⊢
          clear hLK
          have c0 := HG5.out.blk.cell 0
          have c1 := HG5.out.blk.cell 1
          have c2 := HG5.out.blk.cell 2
          have c3 := HG5.out.blk.cell 3
          have c4 := HG5.out.blk.cell 4
          have f4 := HG5.out.blk.frozen 4
          simp at c0 c1 c2 c3 c4
          have HG6 := Lib.hid (HG5.out.store 4 (.int .u64 (LK : Nat)))
          have HSZ := Lib.hid (show w5.heap.size = (w5.setCell ⟨w1.heap.size, 4, none⟩ (.int .u64 (LK : Nat))).heap.size by simp)
          have HN := Lib.hid (show l.length + 1 ≤ 1000000000 by omega)
          have HO1 := Lib.hid (show ∀ u ∈ [Value.int .i64 s, .int .i64 ((l.length : Int) + 1), .int .i64 m, .int .i64 r, .int .u64 (LK : Nat)], u.oneCell' = true from fun u hu => by simp at hu; rcases hu with rfl | rfl | rfl | rfl | rfl <;> rfl)
          go_wp2_with (at_builtin; refine wp_append1G (news := [.int .i64 s, .int .i64 ((l.length : Int) + 1), .int .i64 m, .int .i64 r, .int .u64 (LK : Nat)]) elemRd HG6.out HN.out (by decide) rfl HO1.out rfl _ _ rfl rfl HSZ.out rfl ?_)
          clear c0 c1 c2 c3 c4 f4
          intro v2 w6 hg2
          have hrow := hg2.row
          obtain ⟨g, cp, rfl, hgg, hcp⟩ := hrow.some_of (by omega)
          rw [HST.out] at hrow
          have HRW := Lib.hid hrow
          clear hg2 hrow
          go_wp2
          refine bodyPost_ret (v := .tuple #[.slice (some ⟨g, 0, none⟩) (l.length + 1) cp, .int .i64 0]) (by simp [results, Try.results13, go_sem]) rfl ⟨below_step HB1.out HRW.out.below, .inr ⟨HE.out, g, cp, ?_, hcp, rfl, ?_⟩⟩
          · have := HB1.out.size
            omega
          · exact HRW.out.rds' (by simp)
        · have h0' : (0 : Int) < (l.length : Int) := by omega
          obtain ⟨b, off, hbo, hy⟩ := (HR.out.later (below_step HB1.out HG.out.below)) (l.length - 1) (by omega)
          subst hbo
          obtain ⟨y, hye⟩ : ∃ y, getR l (l.length - 1) = y := ⟨_, rfl⟩
          have HAE := Lib.hid (HA3.out y HV.out (by omega) hye)
          have HSL := Lib.hid (show stAt seed l l.length = y.k by rw [stAt_last seed (by omega), hye])
          rw [hye] at hy
          clear hye
          obtain ⟨k, hk⟩ : ∃ k : Nat, l.length - 1 = k := ⟨_, rfl⟩
          rw [hk] at hy
          have e2 : (l.length : Int) - 1 = (k : Int) := by omega
          have y1 : (0 : Int) ≤ (k : Int) := by omega
          have y2 : (k : Int) < (l.length : Int) := by omega
          clear hk h0
          have HOL := Lib.hid (show (oldR y x = decide (m < y.m ∨ (s = y.s ∧ r < y.r))) ∧ laterR y x = decide (s ≠ y.s ∧ m ≠ y.m) by rw [← hx]; exact ⟨rfl, rfl⟩)
          obtain ⟨d0, d1, d2, d3, d4⟩ := hy
          have HLK := Lib.hid (fun W => refLink_any y.k x y.hk W)
          rw [HX.out] at HLK
          have HST := Lib.hid (flat_ap (hs := hs) HXX.out HSL.out)
          have HGL := Lib.hid (HG.out.alloc (.cells #[.int .i64 y.s, .int .i64 y.n, .int .i64 y.m, .int .i64 y.r, .int .u64 (y.k : Nat)] 25))
          by_cases h1 : m < y.m
          · have HE := Lib.hid (show apErr seed l s m r = 12 by rw [HAE.out, HOL.out.1, if_pos (by simp [h1])])
            go_wp2
            exact bodyPost_ret (v := .tuple #[.slice none 0 0, .int .i64 12]) (by simp [results, Try.results13, go_sem]) rfl ⟨below_step HB1.out HGL.out.below, .inl ⟨by rw [HE.out]; decide, by rw [HE.out]⟩⟩
          by_cases h2 : s = y.s
          · have h2b : (s == y.s) = true := by simpa using h2
            by_cases h3 : r < y.r
            · have HE := Lib.hid (show apErr seed l s m r = 12 by rw [HAE.out, HOL.out.1, if_pos (by simp [h2, h3])])
              clear h2
              go_wp2
              exact bodyPost_ret (v := .tuple #[.slice none 0 0, .int .i64 12]) (by simp [results, Try.results13, go_sem]) rfl ⟨below_step HB1.out HGL.out.below, .inl ⟨by rw [HE.out]; decide, by rw [HE.out]⟩⟩
            · have HE := Lib.hid (show apErr seed l s m r = 0 by rw [HAE.out, HOL.out.1, HOL.out.2, if_neg (by simp [h1, h3]), if_neg (by simp [h2])])
              clear h2b HA1 HA2 HA3
              subst h2
              have c0 := HGL.out.blk.cell 0
              have c1 := HGL.out.blk.cell 1
              have c2 := HGL.out.blk.cell 2
              have c3 := HGL.out.blk.cell 3
              have c4 := HGL.out.blk.cell 4
              simp at c0 c1 c2 c3 c4
              go_wp2_with fail
              clear c0 c1 c2 c3 c4 d0 d1 d2 d3 d4
              refine (HLK.out _).mono ?_
              rintro e w5 ⟨rfl, hb5⟩
              have HG5 := Lib.hid (HGL.out.later hb5)
              clear hb5 HLK
              obtain ⟨LK, hLK⟩ : ∃ LK, link y.k x = LK := ⟨_, rfl⟩
              rw [hLK] at HST ⊢
              clear hLK
              have c0 := HG5.out.blk.cell 0
              have c1 := HG5.out.blk.cell 1
              have c2 := HG5.out.blk.cell 2
              have c3 := HG5.out.blk.cell 3
              have c4 := HG5.out.blk.cell 4
              have f4 := HG5.out.blk.frozen 4
              simp at c0 c1 c2 c3 c4
              have HG6 := Lib.hid (HG5.out.store 4 (.int .u64 (LK : Nat)))
              have HSZ := Lib.hid (show w5.heap.size = (w5.setCell ⟨w1.heap.size, 4, none⟩ (.int .u64 (LK : Nat))).heap.size by simp)
              have HN := Lib.hid (show l.length + 1 ≤ 1000000000 by omega)
              have HO1 := Lib.hid (show ∀ u ∈ [Value.int .i64 y.s, .int .i64 ((l.length : Int) + 1), .int .i64 m, .int .i64 r, .int .u64 (LK : Nat)], u.oneCell' = true from fun u hu => by simp at hu; rcases hu with rfl | rfl | rfl | rfl | rfl <;> rfl)
              go_wp2_with (at_builtin; refine wp_append1G (news := [.int .i64 y.s, .int .i64 ((l.length : Int) + 1), .int .i64 m, .int .i64 r, .int .u64 (LK : Nat)]) elemRd HG6.out HN.out (by decide) rfl HO1.out rfl _ _ rfl rfl HSZ.out rfl ?_)
              clear c0 c1 c2 c3 c4 f4
              intro v2 w6 hg2
              have hrow := hg2.row
              obtain ⟨g, cp, rfl, hgg, hcp⟩ := hrow.some_of (by omega)
              rw [HST.out] at hrow
              have HRW := Lib.hid hrow
              clear hg2 hrow
              go_wp2
              refine bodyPost_ret (v := .tuple #[.slice (some ⟨g, 0, none⟩) (l.length + 1) cp, .int .i64 0]) (by simp [results, Try.results13, go_sem]) rfl ⟨below_step HB1.out HRW.out.below, .inr ⟨HE.out, g, cp, ?_, hcp, rfl, ?_⟩⟩
              · have := HB1.out.size
                omega
              · exact HRW.out.rds' (by simp)
          · have h2b : (s == y.s) = false := by simpa using h2
            by_cases h3 : m = y.m
            · have h3b : (m == y.m) = true := by simpa using h3
              have HE := Lib.hid (show apErr seed l s m r = 0 by rw [HAE.out, HOL.out.1, HOL.out.2, if_neg (by simp [h1, h2]), if_neg (by simp [h3])])
              clear h3b HA1 HA2 HA3
              subst h3
              have c0 := HGL.out.blk.cell 0
              have c1 := HGL.out.blk.cell 1
              have c2 := HGL.out.blk.cell 2
              have c3 := HGL.out.blk.cell 3
              have c4 := HGL.out.blk.cell 4
              simp at c0 c1 c2 c3 c4
              go_wp2_with fail
              clear c0 c1 c2 c3 c4 d0 d1 d2 d3 d4
              refine (HLK.out _).mono ?_
              rintro e w5 ⟨rfl, hb5⟩
              have HG5 := Lib.hid (HGL.out.later hb5)
              clear hb5 HLK
              obtain ⟨LK, hLK⟩ : ∃ LK, link y.k x = LK := ⟨_, rfl⟩
              rw [hLK] at HST ⊢
              clear hLK
              have c0 := HG5.out.blk.cell 0
              have c1 := HG5.out.blk.cell 1
              have c2 := HG5.out.blk.cell 2
              have c3 := HG5.out.blk.cell 3
              have c4 := HG5.out.blk.cell 4
              have f4 := HG5.out.blk.frozen 4
              simp at c0 c1 c2 c3 c4
              have HG6 := Lib.hid (HG5.out.store 4 (.int .u64 (LK : Nat)))
              have HSZ := Lib.hid (show w5.heap.size = (w5.setCell ⟨w1.heap.size, 4, none⟩ (.int .u64 (LK : Nat))).heap.size by simp)
              have HN := Lib.hid (show l.length + 1 ≤ 1000000000 by omega)
              have HO1 := Lib.hid (show ∀ u ∈ [Value.int .i64 s, .int .i64 ((l.length : Int) + 1), .int .i64 y.m, .int .i64 r, .int .u64 (LK : Nat)], u.oneCell' = true from fun u hu => by simp at hu; rcases hu with rfl | rfl | rfl | rfl | rfl <;> rfl)
              go_wp2_with (at_builtin; refine wp_append1G (news := [.int .i64 s, .int .i64 ((l.length : Int) + 1), .int .i64 y.m, .int .i64 r, .int .u64 (LK : Nat)]) elemRd HG6.out HN.out (by decide) rfl HO1.out rfl _ _ rfl rfl HSZ.out rfl ?_)
              clear c0 c1 c2 c3 c4 f4
              intro v2 w6 hg2
              have hrow := hg2.row
              obtain ⟨g, cp, rfl, hgg, hcp⟩ := hrow.some_of (by omega)
              rw [HST.out] at hrow
              have HRW := Lib.hid hrow
              clear hg2 hrow
              go_wp2
              refine bodyPost_ret (v := .tuple #[.slice (some ⟨g, 0, none⟩) (l.length + 1) cp, .int .i64 0]) (by simp [results, Try.results13, go_sem]) rfl ⟨below_step HB1.out HRW.out.below, .inr ⟨HE.out, g, cp, ?_, hcp, rfl, ?_⟩⟩
              · have := HB1.out.size
                omega
              · exact HRW.out.rds' (by simp)
            · have h3b : (m == y.m) = false := by simpa using h3
              have HE := Lib.hid (show apErr seed l s m r = 6 by rw [HAE.out, HOL.out.1, HOL.out.2, if_neg (by simp [h1, h2]), if_pos (by simp [h2, h3])])
              go_wp2
              exact bodyPost_ret (v := .tuple #[.slice none 0 0, .int .i64 6]) (by simp [results, Try.results13, go_sem]) rfl ⟨below_step HB1.out HGL.out.below, .inl ⟨by rw [HE.out]; decide, by rw [HE.out]⟩⟩
end Go.Proofs.Ytckbooccgdddbaa
