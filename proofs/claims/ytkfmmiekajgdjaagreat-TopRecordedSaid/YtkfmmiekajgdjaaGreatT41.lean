/- Package record: contracts of its functions. -/
import Derived.Laws.Cover3
import Derived.Test.YtkfmmiekajgdjaaGreatT40
namespace Go.Proofs.YtkfmmiekajgdjaaGreat
/-! ### Plain41 -/
section
structure Rc where
  se : Int
  ch : Int
  ca : Int
  ho : Int
  hs : Int
  fi : Int
  la : Int
  en : Int
  am : Int
  g0 : Nat
  g1 : Nat
  g2 : Nat
  g3 : Nat
deriving DecidableEq

/-- Four keys, or four signatures. -/
structure K4 where
  k0 : Nat
  k1 : Nat
  k2 : Nat
  k3 : Nat
  h0 : k0 < 18446744073709551616
  h1 : k1 < 18446744073709551616
  h2 : k2 < 18446744073709551616
  h3 : k3 < 18446744073709551616

def rd4 (a b c d : Int) : Rd := ⟨a, b, c, d, 0, by decide⟩
def sig (r : Rc) (k : Nat) : Nat := link (link (link k (rd4 r.se r.ch r.ca r.ho)) (rd4 r.hs r.fi r.la r.en)) (rd4 r.am 0 0 0)
theorem sig_lt {r : Rc} {k : Nat} (h : k < 18446744073709551616) : sig r k < 18446744073709551616 := link_lt (link_lt (link_lt h))

def validC (r : Rc) : Bool := decide ((1 ≤ r.se ∧ r.se ≤ 1000000) ∧ (1 ≤ r.ca ∧ r.ca ≤ 1000000) ∧ (0 ≤ r.ch ∧ r.ch ≤ 15) ∧ (0 ≤ r.ho ∧ r.ho ≤ 7) ∧ (0 ≤ r.hs ∧ r.hs ≤ 7) ∧ (1 ≤ r.fi ∧ r.fi ≤ r.la) ∧ r.la ≤ 64 ∧ (0 ≤ r.en ∧ r.en ≤ 64000000000) ∧ (0 ≤ r.am ∧ r.am ≤ 1000000000))

def chkC (r : Rc) (k : K4) : Int :=
  if validC r = false then 0 else if r.g0 ≠ sig r k.k0 then 0 else if r.g1 ≠ sig r k.k1 then 1 else if r.g2 ≠ sig r k.k2 then 2 else if r.g3 ≠ sig r k.k3 then 3 else -1

theorem chkC_ok {r : Rc} {k : K4} (h : chkC r k = -1) : validC r = true ∧ r.g0 = sig r k.k0 ∧ r.g1 = sig r k.k1 ∧ r.g2 = sig r k.k2 ∧ r.g3 = sig r k.k3 := by
  unfold chkC at h
  split at h
  · cases h
  rename_i hv
  split at h
  · cases h
  rename_i h0
  split at h
  · cases h
  rename_i h1
  split at h
  · cases h
  rename_i h2
  split at h
  · cases h
  rename_i h3
  exact ⟨by simpa using hv, by simpa using h0, by simpa using h1, by simpa using h2, by simpa using h3⟩

theorem sig_inj {r : Rc} {k k' : Nat} (h : k < 18446744073709551616) (h' : k' < 18446744073709551616) (e : sig r k = sig r k') : k = k' :=
  link_inj h h' (link_inj (link_lt h) (link_lt h') (link_inj (link_lt (link_lt h)) (link_lt (link_lt h')) e))

/-- One of the nine numbers is changed in one byte. -/
def Off (r c : Rc) (q y : Nat) : Prop :=
  NumOff (rd4 r.se r.ch r.ca r.ho) (rd4 c.se c.ch c.ca c.ho) q y ∧ c.hs = r.hs ∧ c.fi = r.fi ∧ c.la = r.la ∧ c.en = r.en ∧ c.am = r.am ∨
  (c.se = r.se ∧ c.ch = r.ch ∧ c.ca = r.ca ∧ c.ho = r.ho) ∧ NumOff (rd4 r.hs r.fi r.la r.en) (rd4 c.hs c.fi c.la c.en) q y ∧ c.am = r.am ∨
  (c.se = r.se ∧ c.ch = r.ch ∧ c.ca = r.ca ∧ c.ho = r.ho) ∧ (c.hs = r.hs ∧ c.fi = r.fi ∧ c.la = r.la ∧ c.en = r.en) ∧ NumOff (rd4 r.am 0 0 0) (rd4 c.am 0 0 0) q y

theorem sig_off {r c : Rc} {q y k : Nat} (hq : q < 8) (hb : y < 256) (hy : y ≠ 0) (h : Off r c q y) (hk : k < 18446744073709551616) : sig c k ≠ sig r k := by
  unfold sig
  intro e
  rcases h with ⟨h1, a, b, cc, d, f⟩ | ⟨⟨a, b, cc, d⟩, h1, f⟩ | ⟨⟨a, b, cc, d⟩, ⟨a', b', cc', d'⟩, h1⟩
  · rw [a, b, cc, d, f] at e
    have := link_inj (link_lt hk) (link_lt hk) (link_inj (link_lt (link_lt hk)) (link_lt (link_lt hk)) e)
    exact hy ((link_off hq hb h1 hk).1 this)
  · rw [a, b, cc, d, f] at e
    have := link_inj (link_lt (link_lt hk)) (link_lt (link_lt hk)) e
    exact hy ((link_off hq hb h1 (link_lt hk)).1 this)
  · rw [a, b, cc, d, a', b', cc', d'] at e
    exact hy ((link_off hq hb h1 (link_lt (link_lt hk))).1 e)

/-- A record with one byte changed is refused for the first party. -/
theorem chkC_off {r c : Rc} {k : K4} (h : chkC r k = -1) (hg : c.g0 = r.g0) (hne : sig c k.k0 ≠ sig r k.k0) : chkC c k = 0 := by
  obtain ⟨_, h0, _⟩ := chkC_ok h
  unfold chkC
  split
  · rfl
  · rw [if_pos (by rw [hg, h0]; exact fun e => hne e.symm)]

/-- The first of four things that are not asx they should be. -/
def first4 (a b c d : Bool) : Int := if a then 0 else if b then 1 else if c then 2 else if d then 3 else -1

theorem chkC_first {r c : Rc} {k k' : K4} (h : chkC r k = -1) (hv : validC c = validC r) {a b cc d : Bool} (h0 : a = decide (c.g0 ≠ sig c k'.k0)) (h1 : b = decide (c.g1 ≠ sig c k'.k1)) (h2 : cc = decide (c.g2 ≠ sig c k'.k2)) (h3 : d = decide (c.g3 ≠ sig c k'.k3)) :
    chkC c k' = first4 a b cc d := by
  obtain ⟨hv', _⟩ := chkC_ok h
  unfold chkC first4
  rw [hv, hv', if_neg (by decide), h0, h1, h2, h3]
  simp only [decide_eq_true_eq]
end
/-! ### Wa41 -/
section
open Go.RowKit
attribute [local go_sem] Oper.semAt_some

@[reducible] def recV (r : Rc) : Value := .agg #[.int .i64 r.se, .int .i64 r.ch, .int .i64 r.ca, .int .i64 r.ho, .int .i64 r.hs, .int .i64 r.fi, .int .i64 r.la, .int .i64 r.en, .int .i64 r.am, .int .u64 (r.g0 : Nat), .int .u64 (r.g1 : Nat), .int .u64 (r.g2 : Nat), .int .u64 (r.g3 : Nat)]
@[reducible] def keyV (k : K4) : Value := .agg #[.int .u64 (k.k0 : Nat), .int .u64 (k.k1 : Nat), .int .u64 (k.k2 : Nat), .int .u64 (k.k3 : Nat)]

set_option maxHeartbeats 400000 in
theorem rinside_any (n a b : Int) (w : World) : Calls Tryz.prog 56 #[.int .i64 n, .int .i64 a, .int .i64 b] w fun e w' => e = .returned (.bool (inBand n a b)) ∧ w' = w := by
  go_enter Tryz.func56, Tryz.ntmps56
  go_wp2
  all_goals
    go_ret
    refine ⟨ret_bool ?_, rfl⟩
    rw [Bool.eq_iff_iff]
    simp only [inBand, decide_eq_true_eq, Bool.false_eq_true, false_iff]
    omega

set_option maxHeartbeats 4000000 in
theorem rvalid_any (r : Rc) (w : World) : Calls Tryz.prog 26 #[recV r] w (Ret (.bool (validC r)) w) := by
  go_enter Tryz.func26, Tryz.ntmps26
  go_wp2_with (go_at_call 56; refine (rinside_any _ _ _ _).mono ?_; rintro e w' ⟨rfl, rfl⟩)
  all_goals
    go_ret
    refine ⟨ret_bool ?_, by go_grown⟩
    rw [Bool.eq_iff_iff]
    simp only [validC, inBand, decide_eq_true_eq, decide_eq_false_iff_not, Bool.false_eq_true, false_iff] at *
    omega

end
/-! ### Wb41 -/
section
open Go.RowKit
attribute [local go_sem] Oper.semAt_some

@[reducible] def numsV (r : Rc) : Value := .agg #[.int .i64 r.se, .int .i64 r.ch, .int .i64 r.ca, .int .i64 r.ho, .int .i64 r.hs, .int .i64 r.fi, .int .i64 r.la, .int .i64 r.en, .int .i64 r.am, .int .i64 0, .int .i64 0, .int .i64 0]

set_option maxHeartbeats 4000000 in
theorem numbers_any (r : Rc) (w : World) : Calls Tryz.prog 58 #[recV r] w (Ret (numsV r) w) := by
  go_enter Tryz.func58, Tryz.ntmps58
  go_wp2
  exact bodyPost_ret (v := numsV r) (by simp [results, Tryz.results58, go_sem]) rfl ⟨rfl, by go_grown⟩

/-- A record in a block of its own. -/
def RcB (w : World) (b : Nat) (r : Rc) : Prop := Blk w b 62 #[.int .i64 r.se, .int .i64 r.ch, .int .i64 r.ca, .int .i64 r.ho, .int .i64 r.hs, .int .i64 r.fi, .int .i64 r.la, .int .i64 r.en, .int .i64 r.am, .int .u64 (r.g0 : Nat), .int .u64 (r.g1 : Nat), .int .u64 (r.g2 : Nat), .int .u64 (r.g3 : Nat)]
theorem RcB.new (w : World) (r : Rc) : RcB (w.alloc (.cells #[.int .i64 r.se, .int .i64 r.ch, .int .i64 r.ca, .int .i64 r.ho, .int .i64 r.hs, .int .i64 r.fi, .int .i64 r.la, .int .i64 r.en, .int .i64 r.am, .int .u64 (r.g0 : Nat), .int .u64 (r.g1 : Nat), .int .u64 (r.g2 : Nat), .int .u64 (r.g3 : Nat)] 62)) w.heap.size r := Blk.new ..
theorem RcB.later {w w' : World} {b : Nat} {r : Rc} (h : RcB w b r) (hb : Below w.heap.size w w') : RcB w' b r := Blk.later h hb
theorem RcB.nums {w : World} {b : Nat} {r : Rc} (h : RcB w b r) : w.cell? ⟨b, 0, none⟩ = some (.int .i64 r.se) ∧ w.cell? ⟨b, 1, none⟩ = some (.int .i64 r.ch) ∧ w.cell? ⟨b, 2, none⟩ = some (.int .i64 r.ca) ∧ w.cell? ⟨b, 3, none⟩ = some (.int .i64 r.ho) ∧ w.cell? ⟨b, 4, none⟩ = some (.int .i64 r.hs) ∧ w.cell? ⟨b, 5, none⟩ = some (.int .i64 r.fi) ∧ w.cell? ⟨b, 6, none⟩ = some (.int .i64 r.la) ∧ w.cell? ⟨b, 7, none⟩ = some (.int .i64 r.en) ∧ w.cell? ⟨b, 8, none⟩ = some (.int .i64 r.am) :=
  ⟨h.cell 0, h.cell 1, h.cell 2, h.cell 3, h.cell 4, h.cell 5, h.cell 6, h.cell 7, h.cell 8⟩
theorem RcB.signs {w : World} {b : Nat} {r : Rc} (h : RcB w b r) : w.cell? ⟨b, 9, none⟩ = some (.int .u64 (r.g0 : Nat)) ∧ w.cell? ⟨b, 10, none⟩ = some (.int .u64 (r.g1 : Nat)) ∧ w.cell? ⟨b, 11, none⟩ = some (.int .u64 (r.g2 : Nat)) ∧ w.cell? ⟨b, 12, none⟩ = some (.int .u64 (r.g3 : Nat)) :=
  ⟨h.cell 9, h.cell 10, h.cell 11, h.cell 12⟩

theorem Link4 (z : Nat) (a b c d : Int) (hz : z < 18446744073709551616) (w : World) : Calls Tryz.prog 25 #[.int .u64 (z : Nat), .agg #[.int .i64 a, .int .i64 b, .int .i64 c, .int .i64 d, .int .u64 0]] w (Ret (.int .u64 (link z (rd4 a b c d) : Nat)) w) :=
  Link_any z (rd4 a b c d) hz w

/-- The twelve numbers in a block. -/
def NmB (w : World) (b : Nat) (r : Rc) : Prop := Blk w b 125 #[.int .i64 r.se, .int .i64 r.ch, .int .i64 r.ca, .int .i64 r.ho, .int .i64 r.hs, .int .i64 r.fi, .int .i64 r.la, .int .i64 r.en, .int .i64 r.am, .int .i64 0, .int .i64 0, .int .i64 0]
theorem NmB.later {w w' : World} {b : Nat} {r : Rc} (h : NmB w b r) (hb : Below w.heap.size w w') : NmB w' b r := Blk.later h hb
theorem NmB.nums {w : World} {b : Nat} {r : Rc} (h : NmB w b r) : w.cell? ⟨b, 0, none⟩ = some (.int .i64 r.se) ∧ w.cell? ⟨b, 1, none⟩ = some (.int .i64 r.ch) ∧ w.cell? ⟨b, 2, none⟩ = some (.int .i64 r.ca) ∧ w.cell? ⟨b, 3, none⟩ = some (.int .i64 r.ho) ∧ w.cell? ⟨b, 4, none⟩ = some (.int .i64 r.hs) ∧ w.cell? ⟨b, 5, none⟩ = some (.int .i64 r.fi) ∧ w.cell? ⟨b, 6, none⟩ = some (.int .i64 r.la) ∧ w.cell? ⟨b, 7, none⟩ = some (.int .i64 r.en) ∧ w.cell? ⟨b, 8, none⟩ = some (.int .i64 r.am) ∧ w.cell? ⟨b, 9, none⟩ = some (.int .i64 0) ∧ w.cell? ⟨b, 10, none⟩ = some (.int .i64 0) ∧ w.cell? ⟨b, 11, none⟩ = some (.int .i64 0) :=
  ⟨h.cell 0, h.cell 1, h.cell 2, h.cell 3, h.cell 4, h.cell 5, h.cell 6, h.cell 7, h.cell 8, h.cell 9, h.cell 10, h.cell 11⟩

set_option maxHeartbeats 4000000 in
theorem part0_any (r : Rc) (g : Nat) (w : World) (h : NmB w g r) : Calls Tryz.prog 59 #[.int .i64 0, .pointer (some ⟨g, 0, none⟩)] w (Ret (.agg #[.int .i64 r.se, .int .i64 r.ch, .int .i64 r.ca, .int .i64 r.ho]) w) := by
  have hg := h.lt
  obtain ⟨c0, c1, c2, c3, _, _, _, _, _, _, _, _⟩ := h.nums
  have hat : ∀ w, (Instr.arrayAt 127 (.slice (some ⟨g, 0, none⟩) 4 12)).run Tryz.prog w = .ok (.pointer (some ⟨g, 0, none⟩)) w := fun w => run_arrayAt w 127 _ 4 _ 4 12 Tryz.underlying127 (by decide)
  clear h
  go_enter Tryz.func59, Tryz.ntmps59
  go_wp2
  exact bodyPost_ret (v := .agg #[.int .i64 r.se, .int .i64 r.ch, .int .i64 r.ca, .int .i64 r.ho]) (by simp [results, Tryz.results59, go_sem]) rfl ⟨rfl, by go_grown⟩

set_option maxHeartbeats 4000000 in
theorem part1_any (r : Rc) (g : Nat) (w : World) (h : NmB w g r) : Calls Tryz.prog 59 #[.int .i64 1, .pointer (some ⟨g, 0, none⟩)] w (Ret (.agg #[.int .i64 r.hs, .int .i64 r.fi, .int .i64 r.la, .int .i64 r.en]) w) := by
  have hg := h.lt
  obtain ⟨_, _, _, _, c0, c1, c2, c3, _, _, _, _⟩ := h.nums
  have hat : ∀ w, (Instr.arrayAt 127 (.slice (some ⟨g, 4, none⟩) 4 8)).run Tryz.prog w = .ok (.pointer (some ⟨g, 4, none⟩)) w := fun w => run_arrayAt w 127 _ 4 _ 4 8 Tryz.underlying127 (by decide)
  clear h
  go_enter Tryz.func59, Tryz.ntmps59
  go_wp2
  exact bodyPost_ret (v := .agg #[.int .i64 r.hs, .int .i64 r.fi, .int .i64 r.la, .int .i64 r.en]) (by simp [results, Tryz.results59, go_sem]) rfl ⟨rfl, by go_grown⟩

set_option maxHeartbeats 4000000 in
theorem part2_any (r : Rc) (g : Nat) (w : World) (h : NmB w g r) : Calls Tryz.prog 59 #[.int .i64 2, .pointer (some ⟨g, 0, none⟩)] w (Ret (.agg #[.int .i64 r.am, .int .i64 0, .int .i64 0, .int .i64 0]) w) := by
  have hg := h.lt
  obtain ⟨_, _, _, _, _, _, _, _, c0, c1, c2, c3⟩ := h.nums
  have hat : ∀ w, (Instr.arrayAt 127 (.slice (some ⟨g, 8, none⟩) 4 4)).run Tryz.prog w = .ok (.pointer (some ⟨g, 8, none⟩)) w := fun w => run_arrayAt w 127 _ 4 _ 4 4 Tryz.underlying127 (by decide)
  clear h
  go_enter Tryz.func59, Tryz.ntmps59
  go_wp2
  exact bodyPost_ret (v := .agg #[.int .i64 r.am, .int .i64 0, .int .i64 0, .int .i64 0]) (by simp [results, Tryz.results59, go_sem]) rfl ⟨rfl, by go_grown⟩

/-- Three parts of four numbers, in a slice's block. -/
def PtB (w : World) (b : Nat) (r : Rc) : Prop := Blk w b 127 #[.int .i64 r.se, .int .i64 r.ch, .int .i64 r.ca, .int .i64 r.ho, .int .i64 r.hs, .int .i64 r.fi, .int .i64 r.la, .int .i64 r.en, .int .i64 r.am, .int .i64 0, .int .i64 0, .int .i64 0]
theorem PtB.later {w w' : World} {b : Nat} {r : Rc} (h : PtB w b r) (hb : Below w.heap.size w w') : PtB w' b r := Blk.later h hb
theorem PtB.nums {w : World} {b : Nat} {r : Rc} (h : PtB w b r) : w.cell? ⟨b, 0, none⟩ = some (.int .i64 r.se) ∧ w.cell? ⟨b, 1, none⟩ = some (.int .i64 r.ch) ∧ w.cell? ⟨b, 2, none⟩ = some (.int .i64 r.ca) ∧ w.cell? ⟨b, 3, none⟩ = some (.int .i64 r.ho) ∧ w.cell? ⟨b, 4, none⟩ = some (.int .i64 r.hs) ∧ w.cell? ⟨b, 5, none⟩ = some (.int .i64 r.fi) ∧ w.cell? ⟨b, 6, none⟩ = some (.int .i64 r.la) ∧ w.cell? ⟨b, 7, none⟩ = some (.int .i64 r.en) ∧ w.cell? ⟨b, 8, none⟩ = some (.int .i64 r.am) ∧ w.cell? ⟨b, 9, none⟩ = some (.int .i64 0) ∧ w.cell? ⟨b, 10, none⟩ = some (.int .i64 0) ∧ w.cell? ⟨b, 11, none⟩ = some (.int .i64 0) :=
  ⟨h.cell 0, h.cell 1, h.cell 2, h.cell 3, h.cell 4, h.cell 5, h.cell 6, h.cell 7, h.cell 8, h.cell 9, h.cell 10, h.cell 11⟩

/-- The state after the first k parts. -/
def sigAt (r : Rc) (z : Nat) : Nat → Nat
  | 0 => z
  | 1 => link z (rd4 r.se r.ch r.ca r.ho)
  | 2 => link (link z (rd4 r.se r.ch r.ca r.ho)) (rd4 r.hs r.fi r.la r.en)
  | _ => sig r z
theorem sigAt_lt (r : Rc) {z : Nat} (hz : z < 18446744073709551616) : ∀ k, sigAt r z k < 18446744073709551616
  | 0 => hz
  | 1 => link_lt hz
  | 2 => link_lt (link_lt hz)
  | _ + 3 => sig_lt hz

set_option maxHeartbeats 4000000 in
theorem sign_any (r : Rc) (z g : Nat) (hz : z < 18446744073709551616) (w : World) (h : PtB w g r) : Calls Tryz.prog 60 #[.int .u64 (z : Nat), .slice (some ⟨g, 0, none⟩) 3 3] w (Ret (.int .u64 (sig r z : Nat)) w) := by
  have HP := Lib.hid h
  clear h
  go_enter Tryz.func60, Tryz.ntmps60
  go_wp2
  go_loopw [0, 9] (fun u i wr => ∃ k : Nat, ∃ y : Nat, k ≤ 3 ∧ i = .int .i64 k ∧ u = .int .u64 (y : Nat) ∧ y = sigAt r z k ∧ Below w.heap.size w wr) (fun _ i _ => 3 - (intOf i).toNat)
  case atStart => exact ⟨0, z, by omega, rfl, rfl, rfl, Below.refl _ _⟩
  case round =>
    obtain ⟨k, y, hk, rfl, rfl, hy, hb⟩ := hrel
    have hyl : y < 18446744073709551616 := by rw [hy]; exact sigAt_lt r hz k
    have HY := Lib.hid hy
    have HB := Lib.hid hb
    have HP1 := Lib.hid (HP.out.later hb)
    clear hy hb
    obtain ⟨c0, c1, c2, c3, c4, c5, c6, c7, c8, c9, c10, c11⟩ := HP1.out.nums
    rcases (by omega : k = 0 ∨ k = 1 ∨ k = 2 ∨ k = 3) with rfl | rfl | rfl | rfl
    · rw [show ((0 : Nat) : Int) = 0 from rfl]
      have HS := Lib.hid (show link y (rd4 r.se r.ch r.ca r.ho) = sigAt r z 1 by rw [HY.out]; rfl)
      go_wp2_with fail
      clear c0 c1 c2 c3 c4 c5 c6 c7 c8 c9 c10 c11
      refine (Link4 y r.se r.ch r.ca r.ho hyl _).mono ?_
      rintro e w2 ⟨rfl, hb2⟩
      have HB2 := Lib.hid (below_step (below_alloc HB.out _) hb2)
      clear hb2
      obtain ⟨Y, hY⟩ : ∃ Y, link y (rd4 r.se r.ch r.ca r.ho) = Y := ⟨_, rfl⟩
      rw [hY] at HS ⊢
      clear hY
      go_wp2
      go_roundw
      case rel => exact ⟨1, Y, by omega, rfl, rfl, HS.out, HB2.out⟩
      case measure => simp [intOf]
    · rw [show ((1 : Nat) : Int) = 1 from rfl]
      have HS := Lib.hid (show link y (rd4 r.hs r.fi r.la r.en) = sigAt r z 2 by rw [HY.out]; rfl)
      go_wp2_with fail
      clear c0 c1 c2 c3 c4 c5 c6 c7 c8 c9 c10 c11
      refine (Link4 y r.hs r.fi r.la r.en hyl _).mono ?_
      rintro e w2 ⟨rfl, hb2⟩
      have HB2 := Lib.hid (below_step (below_alloc HB.out _) hb2)
      clear hb2
      obtain ⟨Y, hY⟩ : ∃ Y, link y (rd4 r.hs r.fi r.la r.en) = Y := ⟨_, rfl⟩
      rw [hY] at HS ⊢
      clear hY
      go_wp2
      go_roundw
      case rel => exact ⟨2, Y, by omega, rfl, rfl, HS.out, HB2.out⟩
      case measure => simp [intOf]
    · rw [show ((2 : Nat) : Int) = 2 from rfl]
      have HS := Lib.hid (show link y (rd4 r.am 0 0 0) = sigAt r z 3 by rw [HY.out]; rfl)
      go_wp2_with fail
      clear c0 c1 c2 c3 c4 c5 c6 c7 c8 c9 c10 c11
      refine (Link4 y r.am 0 0 0 hyl _).mono ?_
      rintro e w2 ⟨rfl, hb2⟩
      have HB2 := Lib.hid (below_step (below_alloc HB.out _) hb2)
      clear hb2
      obtain ⟨Y, hY⟩ : ∃ Y, link y (rd4 r.am 0 0 0) = Y := ⟨_, rfl⟩
      rw [hY] at HS ⊢
      clear hY
      go_wp2
      go_roundw
      case rel => exact ⟨3, Y, by omega, rfl, rfl, HS.out, HB2.out⟩
      case measure => simp [intOf]
    · rw [show ((3 : Nat) : Int) = 3 from rfl]
      have HS := Lib.hid (show y = sig r z from HY.out)
      go_wp2
      go_ret
      exact ⟨by rw [HS.out]; rfl, HB.out⟩

set_option maxHeartbeats 4000000 in
theorem rSign_any (r : Rc) (k : Nat) (hk : k < 18446744073709551616) (w : World) : Calls Tryz.prog 28 #[recV r, .int .u64 (k : Nat)] w (Ret (.int .u64 (sig r k : Nat)) w) := by
  go_enter Tryz.func28, Tryz.ntmps28
  go_wp2_with fail
  refine (numbers_any r _).mono ?_
  rintro e w1 ⟨rfl, hb1⟩
  have HB := Lib.hid (below_step (below_alloc (Below.refl _ _) _) hb1)
  clear hb1
  go_wp2_with fail
  have HN := Lib.hid (show NmB (w1.alloc (.cells #[.int .i64 r.se, .int .i64 r.ch, .int .i64 r.ca, .int .i64 r.ho, .int .i64 r.hs, .int .i64 r.fi, .int .i64 r.la, .int .i64 r.en, .int .i64 r.am, .int .i64 0, .int .i64 0, .int .i64 0] 125)) w1.heap.size r from Blk.new ..)
  refine (part0_any r _ _ HN.out).mono ?_
  rintro e w2 ⟨rfl, hb2⟩
  have HB2 := Lib.hid (below_step (below_alloc HB.out _) hb2)
  have HN2 := Lib.hid (HN.out.later hb2)
  clear hb2 HN
  go_wp2_with fail
  refine (part1_any r _ _ HN2.out).mono ?_
  rintro e w3 ⟨rfl, hb3⟩
  have HB3 := Lib.hid (below_step HB2.out hb3)
  have HN3 := Lib.hid (HN2.out.later hb3)
  clear hb3
  go_wp2_with fail
  refine (part2_any r _ _ HN3.out).mono ?_
  rintro e w4 ⟨rfl, hb4⟩
  have HB4 := Lib.hid (below_step HB3.out hb4)
  clear hb4
  go_wp2_with fail
  refine (sign_any r k w4.heap.size hk _ (Blk.new ..)).mono ?_
  rintro e w5 ⟨rfl, hb5⟩
  have HB5 := Lib.hid (below_step (below_alloc HB4.out _) hb5)
  clear hb5
  go_wp2
  go_ret
  exact ⟨rfl, HB5.out⟩
end
/-! ### Wc41 -/
section
open Go.RowKit
attribute [local go_sem] Oper.semAt_some

/-- Four keys in a block of their own. -/
def KyB (w : World) (b : Nat) (k : K4) : Prop := Blk w b 60 #[.int .u64 (k.k0 : Nat), .int .u64 (k.k1 : Nat), .int .u64 (k.k2 : Nat), .int .u64 (k.k3 : Nat)]
theorem KyB.later {w w' : World} {b : Nat} {k : K4} (h : KyB w b k) (hb : Below w.heap.size w w') : KyB w' b k := Blk.later h hb
theorem KyB.keys {w : World} {b : Nat} {k : K4} (h : KyB w b k) : w.cell? ⟨b, 0, none⟩ = some (.int .u64 (k.k0 : Nat)) ∧ w.cell? ⟨b, 1, none⟩ = some (.int .u64 (k.k1 : Nat)) ∧ w.cell? ⟨b, 2, none⟩ = some (.int .u64 (k.k2 : Nat)) ∧ w.cell? ⟨b, 3, none⟩ = some (.int .u64 (k.k3 : Nat)) := ⟨h.cell 0, h.cell 1, h.cell 2, h.cell 3⟩

/-- The first n signatures are right. -/
def okUpto (r : Rc) (k : K4) (n : Nat) : Prop := (0 < n → r.g0 = sig r k.k0) ∧ (1 < n → r.g1 = sig r k.k1) ∧ (2 < n → r.g2 = sig r k.k2) ∧ (3 < n → r.g3 = sig r k.k3)
theorem chkC_inv {r : Rc} {k : K4} (h : validC r = false) : chkC r k = 0 := by unfold chkC; rw [if_pos h]
theorem chkC_all {r : Rc} {k : K4} (hv : validC r = true) (h : okUpto r k 4) : chkC r k = -1 := by
  obtain ⟨a, b, c, d⟩ := h
  unfold chkC
  rw [if_neg (by rw [hv]; decide), if_neg (by simpa using a (by decide)), if_neg (by simpa using b (by decide)), if_neg (by simpa using c (by decide)), if_neg (by simpa using d (by decide))]
theorem chkC_at0 {r : Rc} {k : K4} (hv : validC r = true) (_ : okUpto r k 0) (h : ¬ r.g0 = sig r k.k0) : chkC r k = 0 := by
  unfold chkC; rw [if_neg (by rw [hv]; decide), if_pos h]
theorem chkC_at1 {r : Rc} {k : K4} (hv : validC r = true) (o : okUpto r k 1) (h : ¬ r.g1 = sig r k.k1) : chkC r k = 1 := by
  unfold chkC; rw [if_neg (by rw [hv]; decide), if_neg (by simpa using o.1 (by decide)), if_pos h]
theorem chkC_at2 {r : Rc} {k : K4} (hv : validC r = true) (o : okUpto r k 2) (h : ¬ r.g2 = sig r k.k2) : chkC r k = 2 := by
  unfold chkC; rw [if_neg (by rw [hv]; decide), if_neg (by simpa using o.1 (by decide)), if_neg (by simpa using o.2.1 (by decide)), if_pos h]
theorem chkC_at3 {r : Rc} {k : K4} (hv : validC r = true) (o : okUpto r k 3) (h : ¬ r.g3 = sig r k.k3) : chkC r k = 3 := by
  unfold chkC; rw [if_neg (by rw [hv]; decide), if_neg (by simpa using o.1 (by decide)), if_neg (by simpa using o.2.1 (by decide)), if_neg (by simpa using o.2.2.1 (by decide)), if_pos h]

set_option maxRecDepth 100000 in
set_option maxHeartbeats 8000000 in
theorem rCheck_any (r : Rc) (k : K4) (w : World) : Calls Tryz.prog 17 #[recV r, keyV k] w (Ret (.int .i64 (chkC r k)) w) := by
  obtain ⟨V, hV⟩ : ∃ V, chkC r k = V := ⟨_, rfl⟩
  rw [hV]
  have HV := Lib.hid hV
  clear hV
  go_enter Tryz.func17, Tryz.ntmps17
  go_wp2_with fail
  refine (rvalid_any r _).mono ?_
  rintro e w1 ⟨rfl, hb1⟩
  have HX := Lib.hid (((RcB.new w r).later (below_alloc (Below.refl _ _) _)).later hb1)
  have HK := Lib.hid (show KyB w1 (w.heap.size + 1) k from KyB.later (by have h := Blk.new (w.alloc (.cells #[.int .i64 r.se, .int .i64 r.ch, .int .i64 r.ca, .int .i64 r.ho, .int .i64 r.hs, .int .i64 r.fi, .int .i64 r.la, .int .i64 r.en, .int .i64 r.am, .int .u64 (r.g0 : Nat), .int .u64 (r.g1 : Nat), .int .u64 (r.g2 : Nat), .int .u64 (r.g3 : Nat)] 62)) 60 #[.int .u64 (k.k0 : Nat), .int .u64 (k.k1 : Nat), .int .u64 (k.k2 : Nat), .int .u64 (k.k3 : Nat)]; rw [World.size_alloc] at h; exact h) hb1)
  have HB := Lib.hid (below_step (below_alloc (below_alloc (Below.refl _ _) _) _) hb1)
  clear hb1
  cases hv : validC r with
  | false =>
    obtain rfl : 0 = V := by rw [← HV.out]; exact (chkC_inv hv).symm
    go_wp2
    go_ret
    exact ⟨rfl, HB.out⟩
  | true =>
    have HVA := Lib.hid hv
    clear hv
    obtain ⟨k0, k1, k2, k3⟩ := HK.out.keys
    go_wp2
    clear k0 k1 k2 k3
    go_loopw [11] (fun i wr => ∃ n : Nat, n ≤ 4 ∧ i = .int .i64 n ∧ okUpto r k n ∧ Below w1.heap.size w1 wr) (fun i _ => 4 - (intOf i).toNat)
    case atStart => exact ⟨0, by omega, rfl, ⟨fun h => absurd h (by omega), fun h => absurd h (by omega), fun h => absurd h (by omega), fun h => absurd h (by omega)⟩, Below.refl _ _⟩
    case round =>
      obtain ⟨n, hn, rfl, hok, hb⟩ := hrel
      have HOK := Lib.hid hok
      have HB1 := Lib.hid hb
      have HX1 := Lib.hid (HX.out.later hb)
      have HK1 := Lib.hid (HK.out.later hb)
      clear hok hb
      rcases (by omega : n = 0 ∨ n = 1 ∨ n = 2 ∨ n = 3 ∨ n = 4) with rfl | rfl | rfl | rfl | rfl
      · rw [show ((0 : Nat) : Int) = 0 from rfl]
        have HS := Lib.hid (fun w' => rSign_any r k.k0 k.h0 w')
        have HE := Lib.hid (show r.g0 = sig r k.k0 → okUpto r k 1 from fun h => ⟨fun _ => h, fun hh => absurd hh (by decide), fun hh => absurd hh (by decide), fun hh => absurd hh (by decide)⟩)
        have HNE := Lib.hid (fun h => chkC_at0 HVA.out HOK.out h)
        obtain ⟨G, hG⟩ : ∃ G, sig r k.k0 = G := ⟨_, rfl⟩
        rw [hG] at HS HE HNE
        clear hG
        by_cases hg : r.g0 = G
        · have HOK2 := Lib.hid (HE.out hg)
          subst hg
          have hix : ∀ w, (Instr.index 60 (.agg #[.int .u64 (k.k0 : Nat), .int .u64 (k.k1 : Nat), .int .u64 (k.k2 : Nat), .int .u64 (k.k3 : Nat)]) (.int .i64 0)).run Tryz.prog w = .ok (.int .u64 (k.k0 : Nat)) w := fun _ => by kernel_rfl
          go_wp2_with fail
          clear hix
          refine wp_region_B 8 (fun w'' => Below wr.heap.size wr w'') mixed (by kernel_rfl) (below_closed wr) (Below.refl _ _).drew ?_
          simp only [List.take_succ_cons, List.take_zero, List.drop_succ_cons, List.drop_zero]
          intro KR hR
          have HR := Lib.hid hR
          clear hR
          have HCC := Lib.hid (show ∀ w'', Below wr.heap.size wr w'' → w''.cell? ⟨w.heap.size, 0, none⟩ = some (.int .i64 r.se) ∧ w''.cell? ⟨w.heap.size, 1, none⟩ = some (.int .i64 r.ch) ∧ w''.cell? ⟨w.heap.size, 2, none⟩ = some (.int .i64 r.ca) ∧ w''.cell? ⟨w.heap.size, 3, none⟩ = some (.int .i64 r.ho) ∧ w''.cell? ⟨w.heap.size, 4, none⟩ = some (.int .i64 r.hs) ∧ w''.cell? ⟨w.heap.size, 5, none⟩ = some (.int .i64 r.fi) ∧ w''.cell? ⟨w.heap.size, 6, none⟩ = some (.int .i64 r.la) ∧ w''.cell? ⟨w.heap.size, 7, none⟩ = some (.int .i64 r.en) ∧ w''.cell? ⟨w.heap.size, 8, none⟩ = some (.int .i64 r.am) ∧ w''.cell? ⟨w.heap.size, 9, none⟩ = some (.int .u64 (r.g0 : Nat)) ∧ w''.cell? ⟨w.heap.size, 10, none⟩ = some (.int .u64 (r.g1 : Nat)) ∧ w''.cell? ⟨w.heap.size, 11, none⟩ = some (.int .u64 (r.g2 : Nat)) ∧ w''.cell? ⟨w.heap.size, 12, none⟩ = some (.int .u64 (r.g3 : Nat)) from fun w'' hw => ⟨(HX1.out.later hw).cell 0, (HX1.out.later hw).cell 1, (HX1.out.later hw).cell 2, (HX1.out.later hw).cell 3, (HX1.out.later hw).cell 4, (HX1.out.later hw).cell 5, (HX1.out.later hw).cell 6, (HX1.out.later hw).cell 7, (HX1.out.later hw).cell 8, (HX1.out.later hw).cell 9, (HX1.out.later hw).cell 10, (HX1.out.later hw).cell 11, (HX1.out.later hw).cell 12⟩)
          ((with_reducible refine wpB_move ?_ ?_); exact rfl; simp only [Act.put, List.setIfInBounds_toArray, List.set_cons_zero, List.set_cons_succ])
          apply wpB_val rfl
          · (intro w' hw'; obtain ⟨c0, c1, c2, c3, c4, c5, c6, c7, c8, c9, c10, c11, c12⟩ := HCC.out w' hw'; go_simp; with_reducible rfl)
          simp only [Act.put, List.setIfInBounds_toArray, List.set_cons_zero, List.set_cons_succ]
          apply wpB_val rfl
          · (intro w' hw'; obtain ⟨c0, c1, c2, c3, c4, c5, c6, c7, c8, c9, c10, c11, c12⟩ := HCC.out w' hw'; go_simp; with_reducible rfl)
          simp only [Act.put, List.setIfInBounds_toArray, List.set_cons_zero, List.set_cons_succ]
          apply wpB_val rfl
          · (intro w' hw'; obtain ⟨c0, c1, c2, c3, c4, c5, c6, c7, c8, c9, c10, c11, c12⟩ := HCC.out w' hw'; go_simp; with_reducible rfl)
          simp only [Act.put, List.setIfInBounds_toArray, List.set_cons_zero, List.set_cons_succ]
          apply wpB_val rfl
          · (intro w' hw'; obtain ⟨c0, c1, c2, c3, c4, c5, c6, c7, c8, c9, c10, c11, c12⟩ := HCC.out w' hw'; go_simp; with_reducible rfl)
          simp only [Act.put, List.setIfInBounds_toArray, List.set_cons_zero, List.set_cons_succ]
          ((with_reducible refine wpB_move ?_ ?_); exact rfl; simp only [Act.put, List.setIfInBounds_toArray, List.set_cons_zero, List.set_cons_succ])
          apply wpB_call 28 #[recV r, .int .u64 (k.k0 : Nat)] rfl (v := _)
          · (intro w'; go_simp)
          · exact fun w' hw' => HS.out w'
          simp only [Act.put, List.setIfInBounds_toArray, List.set_cons_zero, List.set_cons_succ]
          apply wpB_val rfl
          · (intro w' hw'; go_simp; with_reducible rfl)
          simp only [Act.put, List.setIfInBounds_toArray, List.set_cons_zero, List.set_cons_succ]
          refine wpB_nil (HR.out _ (fun w2 hw2 => ?_))
          clear HR HCC
          have HB2 := Lib.hid (below_step HB1.out hw2)
          clear hw2
          go_wp2
          go_roundw
          case rel => exact ⟨1, by omega, rfl, HOK2.out, HB2.out⟩
          case measure => simp [intOf]
        · have hgb : ((r.g0 : Int) == (G : Int)) = false := by rw [beq_eq_false_iff_ne]; omega
          obtain rfl : 0 = V := by rw [← HV.out]; exact (HNE.out hg).symm
          have hix : ∀ w, (Instr.index 60 (.agg #[.int .u64 (k.k0 : Nat), .int .u64 (k.k1 : Nat), .int .u64 (k.k2 : Nat), .int .u64 (k.k3 : Nat)]) (.int .i64 0)).run Tryz.prog w = .ok (.int .u64 (k.k0 : Nat)) w := fun _ => by kernel_rfl
          go_wp2_with fail
          clear hix
          refine wp_region_B 8 (fun w'' => Below wr.heap.size wr w'') mixed (by kernel_rfl) (below_closed wr) (Below.refl _ _).drew ?_
          simp only [List.take_succ_cons, List.take_zero, List.drop_succ_cons, List.drop_zero]
          intro KR hR
          have HR := Lib.hid hR
          clear hR
          have HCC := Lib.hid (show ∀ w'', Below wr.heap.size wr w'' → w''.cell? ⟨w.heap.size, 0, none⟩ = some (.int .i64 r.se) ∧ w''.cell? ⟨w.heap.size, 1, none⟩ = some (.int .i64 r.ch) ∧ w''.cell? ⟨w.heap.size, 2, none⟩ = some (.int .i64 r.ca) ∧ w''.cell? ⟨w.heap.size, 3, none⟩ = some (.int .i64 r.ho) ∧ w''.cell? ⟨w.heap.size, 4, none⟩ = some (.int .i64 r.hs) ∧ w''.cell? ⟨w.heap.size, 5, none⟩ = some (.int .i64 r.fi) ∧ w''.cell? ⟨w.heap.size, 6, none⟩ = some (.int .i64 r.la) ∧ w''.cell? ⟨w.heap.size, 7, none⟩ = some (.int .i64 r.en) ∧ w''.cell? ⟨w.heap.size, 8, none⟩ = some (.int .i64 r.am) ∧ w''.cell? ⟨w.heap.size, 9, none⟩ = some (.int .u64 (r.g0 : Nat)) ∧ w''.cell? ⟨w.heap.size, 10, none⟩ = some (.int .u64 (r.g1 : Nat)) ∧ w''.cell? ⟨w.heap.size, 11, none⟩ = some (.int .u64 (r.g2 : Nat)) ∧ w''.cell? ⟨w.heap.size, 12, none⟩ = some (.int .u64 (r.g3 : Nat)) from fun w'' hw => ⟨(HX1.out.later hw).cell 0, (HX1.out.later hw).cell 1, (HX1.out.later hw).cell 2, (HX1.out.later hw).cell 3, (HX1.out.later hw).cell 4, (HX1.out.later hw).cell 5, (HX1.out.later hw).cell 6, (HX1.out.later hw).cell 7, (HX1.out.later hw).cell 8, (HX1.out.later hw).cell 9, (HX1.out.later hw).cell 10, (HX1.out.later hw).cell 11, (HX1.out.later hw).cell 12⟩)
          ((with_reducible refine wpB_move ?_ ?_); exact rfl; simp only [Act.put, List.setIfInBounds_toArray, List.set_cons_zero, List.set_cons_succ])
          apply wpB_val rfl
          · (intro w' hw'; obtain ⟨c0, c1, c2, c3, c4, c5, c6, c7, c8, c9, c10, c11, c12⟩ := HCC.out w' hw'; go_simp; with_reducible rfl)
          simp only [Act.put, List.setIfInBounds_toArray, List.set_cons_zero, List.set_cons_succ]
          apply wpB_val rfl
          · (intro w' hw'; obtain ⟨c0, c1, c2, c3, c4, c5, c6, c7, c8, c9, c10, c11, c12⟩ := HCC.out w' hw'; go_simp; with_reducible rfl)
          simp only [Act.put, List.setIfInBounds_toArray, List.set_cons_zero, List.set_cons_succ]
          apply wpB_val rfl
          · (intro w' hw'; obtain ⟨c0, c1, c2, c3, c4, c5, c6, c7, c8, c9, c10, c11, c12⟩ := HCC.out w' hw'; go_simp; with_reducible rfl)
          simp only [Act.put, List.setIfInBounds_toArray, List.set_cons_zero, List.set_cons_succ]
          apply wpB_val rfl
          · (intro w' hw'; obtain ⟨c0, c1, c2, c3, c4, c5, c6, c7, c8, c9, c10, c11, c12⟩ := HCC.out w' hw'; go_simp; with_reducible rfl)
          simp only [Act.put, List.setIfInBounds_toArray, List.set_cons_zero, List.set_cons_succ]
          ((with_reducible refine wpB_move ?_ ?_); exact rfl; simp only [Act.put, List.setIfInBounds_toArray, List.set_cons_zero, List.set_cons_succ])
          apply wpB_call 28 #[recV r, .int .u64 (k.k0 : Nat)] rfl (v := _)
          · (intro w'; go_simp)
          · exact fun w' hw' => HS.out w'
          simp only [Act.put, List.setIfInBounds_toArray, List.set_cons_zero, List.set_cons_succ]
          apply wpB_val rfl
          · (intro w' hw'; go_simp; with_reducible rfl)
          simp only [Act.put, List.setIfInBounds_toArray, List.set_cons_zero, List.set_cons_succ]
          refine wpB_nil (HR.out _ (fun w2 hw2 => ?_))
          clear HR HCC
          have HB2 := Lib.hid (below_step HB1.out hw2)
          clear hw2
          go_wp2
          go_ret
          exact ⟨rfl, below_step HB.out HB2.out⟩
      · rw [show ((1 : Nat) : Int) = 1 from rfl]
        have HS := Lib.hid (fun w' => rSign_any r k.k1 k.h1 w')
        have HE := Lib.hid (show r.g1 = sig r k.k1 → okUpto r k 2 from fun h => ⟨fun _ => HOK.out.1 (by decide), fun hh => h, fun hh => absurd hh (by decide), fun hh => absurd hh (by decide)⟩)
        have HNE := Lib.hid (fun h => chkC_at1 HVA.out HOK.out h)
        obtain ⟨G, hG⟩ : ∃ G, sig r k.k1 = G := ⟨_, rfl⟩
        rw [hG] at HS HE HNE
        clear hG
        by_cases hg : r.g1 = G
        · have HOK2 := Lib.hid (HE.out hg)
          subst hg
          have hix : ∀ w, (Instr.index 60 (.agg #[.int .u64 (k.k0 : Nat), .int .u64 (k.k1 : Nat), .int .u64 (k.k2 : Nat), .int .u64 (k.k3 : Nat)]) (.int .i64 1)).run Tryz.prog w = .ok (.int .u64 (k.k1 : Nat)) w := fun _ => by kernel_rfl
          go_wp2_with fail
          clear hix
          refine wp_region_B 8 (fun w'' => Below wr.heap.size wr w'') mixed (by kernel_rfl) (below_closed wr) (Below.refl _ _).drew ?_
          simp only [List.take_succ_cons, List.take_zero, List.drop_succ_cons, List.drop_zero]
          intro KR hR
          have HR := Lib.hid hR
          clear hR
          have HCC := Lib.hid (show ∀ w'', Below wr.heap.size wr w'' → w''.cell? ⟨w.heap.size, 0, none⟩ = some (.int .i64 r.se) ∧ w''.cell? ⟨w.heap.size, 1, none⟩ = some (.int .i64 r.ch) ∧ w''.cell? ⟨w.heap.size, 2, none⟩ = some (.int .i64 r.ca) ∧ w''.cell? ⟨w.heap.size, 3, none⟩ = some (.int .i64 r.ho) ∧ w''.cell? ⟨w.heap.size, 4, none⟩ = some (.int .i64 r.hs) ∧ w''.cell? ⟨w.heap.size, 5, none⟩ = some (.int .i64 r.fi) ∧ w''.cell? ⟨w.heap.size, 6, none⟩ = some (.int .i64 r.la) ∧ w''.cell? ⟨w.heap.size, 7, none⟩ = some (.int .i64 r.en) ∧ w''.cell? ⟨w.heap.size, 8, none⟩ = some (.int .i64 r.am) ∧ w''.cell? ⟨w.heap.size, 9, none⟩ = some (.int .u64 (r.g0 : Nat)) ∧ w''.cell? ⟨w.heap.size, 10, none⟩ = some (.int .u64 (r.g1 : Nat)) ∧ w''.cell? ⟨w.heap.size, 11, none⟩ = some (.int .u64 (r.g2 : Nat)) ∧ w''.cell? ⟨w.heap.size, 12, none⟩ = some (.int .u64 (r.g3 : Nat)) from fun w'' hw => ⟨(HX1.out.later hw).cell 0, (HX1.out.later hw).cell 1, (HX1.out.later hw).cell 2, (HX1.out.later hw).cell 3, (HX1.out.later hw).cell 4, (HX1.out.later hw).cell 5, (HX1.out.later hw).cell 6, (HX1.out.later hw).cell 7, (HX1.out.later hw).cell 8, (HX1.out.later hw).cell 9, (HX1.out.later hw).cell 10, (HX1.out.later hw).cell 11, (HX1.out.later hw).cell 12⟩)
          ((with_reducible refine wpB_move ?_ ?_); exact rfl; simp only [Act.put, List.setIfInBounds_toArray, List.set_cons_zero, List.set_cons_succ])
          apply wpB_val rfl
          · (intro w' hw'; obtain ⟨c0, c1, c2, c3, c4, c5, c6, c7, c8, c9, c10, c11, c12⟩ := HCC.out w' hw'; go_simp; with_reducible rfl)
          simp only [Act.put, List.setIfInBounds_toArray, List.set_cons_zero, List.set_cons_succ]
          apply wpB_val rfl
          · (intro w' hw'; obtain ⟨c0, c1, c2, c3, c4, c5, c6, c7, c8, c9, c10, c11, c12⟩ := HCC.out w' hw'; go_simp; with_reducible rfl)
          simp only [Act.put, List.setIfInBounds_toArray, List.set_cons_zero, List.set_cons_succ]
          apply wpB_val rfl
          · (intro w' hw'; obtain ⟨c0, c1, c2, c3, c4, c5, c6, c7, c8, c9, c10, c11, c12⟩ := HCC.out w' hw'; go_simp; with_reducible rfl)
          simp only [Act.put, List.setIfInBounds_toArray, List.set_cons_zero, List.set_cons_succ]
          apply wpB_val rfl
          · (intro w' hw'; obtain ⟨c0, c1, c2, c3, c4, c5, c6, c7, c8, c9, c10, c11, c12⟩ := HCC.out w' hw'; go_simp; with_reducible rfl)
          simp only [Act.put, List.setIfInBounds_toArray, List.set_cons_zero, List.set_cons_succ]
          ((with_reducible refine wpB_move ?_ ?_); exact rfl; simp only [Act.put, List.setIfInBounds_toArray, List.set_cons_zero, List.set_cons_succ])
          apply wpB_call 28 #[recV r, .int .u64 (k.k1 : Nat)] rfl (v := _)
          · (intro w'; go_simp)
          · exact fun w' hw' => HS.out w'
          simp only [Act.put, List.setIfInBounds_toArray, List.set_cons_zero, List.set_cons_succ]
          apply wpB_val rfl
          · (intro w' hw'; go_simp; with_reducible rfl)
          simp only [Act.put, List.setIfInBounds_toArray, List.set_cons_zero, List.set_cons_succ]
          refine wpB_nil (HR.out _ (fun w2 hw2 => ?_))
          clear HR HCC
          have HB2 := Lib.hid (below_step HB1.out hw2)
          clear hw2
          go_wp2
          go_roundw
          case rel => exact ⟨2, by omega, rfl, HOK2.out, HB2.out⟩
          case measure => simp [intOf]
        · have hgb : ((r.g1 : Int) == (G : Int)) = false := by rw [beq_eq_false_iff_ne]; omega
          obtain rfl : 1 = V := by rw [← HV.out]; exact (HNE.out hg).symm
          have hix : ∀ w, (Instr.index 60 (.agg #[.int .u64 (k.k0 : Nat), .int .u64 (k.k1 : Nat), .int .u64 (k.k2 : Nat), .int .u64 (k.k3 : Nat)]) (.int .i64 1)).run Tryz.prog w = .ok (.int .u64 (k.k1 : Nat)) w := fun _ => by kernel_rfl
          go_wp2_with fail
          clear hix
          refine wp_region_B 8 (fun w'' => Below wr.heap.size wr w'') mixed (by kernel_rfl) (below_closed wr) (Below.refl _ _).drew ?_
          simp only [List.take_succ_cons, List.take_zero, List.drop_succ_cons, List.drop_zero]
          intro KR hR
          have HR := Lib.hid hR
          clear hR
          have HCC := Lib.hid (show ∀ w'', Below wr.heap.size wr w'' → w''.cell? ⟨w.heap.size, 0, none⟩ = some (.int .i64 r.se) ∧ w''.cell? ⟨w.heap.size, 1, none⟩ = some (.int .i64 r.ch) ∧ w''.cell? ⟨w.heap.size, 2, none⟩ = some (.int .i64 r.ca) ∧ w''.cell? ⟨w.heap.size, 3, none⟩ = some (.int .i64 r.ho) ∧ w''.cell? ⟨w.heap.size, 4, none⟩ = some (.int .i64 r.hs) ∧ w''.cell? ⟨w.heap.size, 5, none⟩ = some (.int .i64 r.fi) ∧ w''.cell? ⟨w.heap.size, 6, none⟩ = some (.int .i64 r.la) ∧ w''.cell? ⟨w.heap.size, 7, none⟩ = some (.int .i64 r.en) ∧ w''.cell? ⟨w.heap.size, 8, none⟩ = some (.int .i64 r.am) ∧ w''.cell? ⟨w.heap.size, 9, none⟩ = some (.int .u64 (r.g0 : Nat)) ∧ w''.cell? ⟨w.heap.size, 10, none⟩ = some (.int .u64 (r.g1 : Nat)) ∧ w''.cell? ⟨w.heap.size, 11, none⟩ = some (.int .u64 (r.g2 : Nat)) ∧ w''.cell? ⟨w.heap.size, 12, none⟩ = some (.int .u64 (r.g3 : Nat)) from fun w'' hw => ⟨(HX1.out.later hw).cell 0, (HX1.out.later hw).cell 1, (HX1.out.later hw).cell 2, (HX1.out.later hw).cell 3, (HX1.out.later hw).cell 4, (HX1.out.later hw).cell 5, (HX1.out.later hw).cell 6, (HX1.out.later hw).cell 7, (HX1.out.later hw).cell 8, (HX1.out.later hw).cell 9, (HX1.out.later hw).cell 10, (HX1.out.later hw).cell 11, (HX1.out.later hw).cell 12⟩)
          ((with_reducible refine wpB_move ?_ ?_); exact rfl; simp only [Act.put, List.setIfInBounds_toArray, List.set_cons_zero, List.set_cons_succ])
          apply wpB_val rfl
          · (intro w' hw'; obtain ⟨c0, c1, c2, c3, c4, c5, c6, c7, c8, c9, c10, c11, c12⟩ := HCC.out w' hw'; go_simp; with_reducible rfl)
          simp only [Act.put, List.setIfInBounds_toArray, List.set_cons_zero, List.set_cons_succ]
          apply wpB_val rfl
          · (intro w' hw'; obtain ⟨c0, c1, c2, c3, c4, c5, c6, c7, c8, c9, c10, c11, c12⟩ := HCC.out w' hw'; go_simp; with_reducible rfl)
          simp only [Act.put, List.setIfInBounds_toArray, List.set_cons_zero, List.set_cons_succ]
          apply wpB_val rfl
          · (intro w' hw'; obtain ⟨c0, c1, c2, c3, c4, c5, c6, c7, c8, c9, c10, c11, c12⟩ := HCC.out w' hw'; go_simp; with_reducible rfl)
          simp only [Act.put, List.setIfInBounds_toArray, List.set_cons_zero, List.set_cons_succ]
          apply wpB_val rfl
          · (intro w' hw'; obtain ⟨c0, c1, c2, c3, c4, c5, c6, c7, c8, c9, c10, c11, c12⟩ := HCC.out w' hw'; go_simp; with_reducible rfl)
          simp only [Act.put, List.setIfInBounds_toArray, List.set_cons_zero, List.set_cons_succ]
          ((with_reducible refine wpB_move ?_ ?_); exact rfl; simp only [Act.put, List.setIfInBounds_toArray, List.set_cons_zero, List.set_cons_succ])
          apply wpB_call 28 #[recV r, .int .u64 (k.k1 : Nat)] rfl (v := _)
          · (intro w'; go_simp)
          · exact fun w' hw' => HS.out w'
          simp only [Act.put, List.setIfInBounds_toArray, List.set_cons_zero, List.set_cons_succ]
          apply wpB_val rfl
          · (intro w' hw'; go_simp; with_reducible rfl)
          simp only [Act.put, List.setIfInBounds_toArray, List.set_cons_zero, List.set_cons_succ]
          refine wpB_nil (HR.out _ (fun w2 hw2 => ?_))
          clear HR HCC
          have HB2 := Lib.hid (below_step HB1.out hw2)
          clear hw2
          go_wp2
          go_ret
          exact ⟨rfl, below_step HB.out HB2.out⟩
      · rw [show ((2 : Nat) : Int) = 2 from rfl]
        have HS := Lib.hid (fun w' => rSign_any r k.k2 k.h2 w')
        have HE := Lib.hid (show r.g2 = sig r k.k2 → okUpto r k 3 from fun h => ⟨fun _ => HOK.out.1 (by decide), fun hh => HOK.out.2.1 (by decide), fun hh => h, fun hh => absurd hh (by decide)⟩)
        have HNE := Lib.hid (fun h => chkC_at2 HVA.out HOK.out h)
        obtain ⟨G, hG⟩ : ∃ G, sig r k.k2 = G := ⟨_, rfl⟩
        rw [hG] at HS HE HNE
        clear hG
        by_cases hg : r.g2 = G
        · have HOK2 := Lib.hid (HE.out hg)
          subst hg
          have hix : ∀ w, (Instr.index 60 (.agg #[.int .u64 (k.k0 : Nat), .int .u64 (k.k1 : Nat), .int .u64 (k.k2 : Nat), .int .u64 (k.k3 : Nat)]) (.int .i64 2)).run Tryz.prog w = .ok (.int .u64 (k.k2 : Nat)) w := fun _ => by kernel_rfl
          go_wp2_with fail
          clear hix
          refine wp_region_B 8 (fun w'' => Below wr.heap.size wr w'') mixed (by kernel_rfl) (below_closed wr) (Below.refl _ _).drew ?_
          simp only [List.take_succ_cons, List.take_zero, List.drop_succ_cons, List.drop_zero]
          intro KR hR
          have HR := Lib.hid hR
          clear hR
          have HCC := Lib.hid (show ∀ w'', Below wr.heap.size wr w'' → w''.cell? ⟨w.heap.size, 0, none⟩ = some (.int .i64 r.se) ∧ w''.cell? ⟨w.heap.size, 1, none⟩ = some (.int .i64 r.ch) ∧ w''.cell? ⟨w.heap.size, 2, none⟩ = some (.int .i64 r.ca) ∧ w''.cell? ⟨w.heap.size, 3, none⟩ = some (.int .i64 r.ho) ∧ w''.cell? ⟨w.heap.size, 4, none⟩ = some (.int .i64 r.hs) ∧ w''.cell? ⟨w.heap.size, 5, none⟩ = some (.int .i64 r.fi) ∧ w''.cell? ⟨w.heap.size, 6, none⟩ = some (.int .i64 r.la) ∧ w''.cell? ⟨w.heap.size, 7, none⟩ = some (.int .i64 r.en) ∧ w''.cell? ⟨w.heap.size, 8, none⟩ = some (.int .i64 r.am) ∧ w''.cell? ⟨w.heap.size, 9, none⟩ = some (.int .u64 (r.g0 : Nat)) ∧ w''.cell? ⟨w.heap.size, 10, none⟩ = some (.int .u64 (r.g1 : Nat)) ∧ w''.cell? ⟨w.heap.size, 11, none⟩ = some (.int .u64 (r.g2 : Nat)) ∧ w''.cell? ⟨w.heap.size, 12, none⟩ = some (.int .u64 (r.g3 : Nat)) from fun w'' hw => ⟨(HX1.out.later hw).cell 0, (HX1.out.later hw).cell 1, (HX1.out.later hw).cell 2, (HX1.out.later hw).cell 3, (HX1.out.later hw).cell 4, (HX1.out.later hw).cell 5, (HX1.out.later hw).cell 6, (HX1.out.later hw).cell 7, (HX1.out.later hw).cell 8, (HX1.out.later hw).cell 9, (HX1.out.later hw).cell 10, (HX1.out.later hw).cell 11, (HX1.out.later hw).cell 12⟩)
          ((with_reducible refine wpB_move ?_ ?_); exact rfl; simp only [Act.put, List.setIfInBounds_toArray, List.set_cons_zero, List.set_cons_succ])
          apply wpB_val rfl
          · (intro w' hw'; obtain ⟨c0, c1, c2, c3, c4, c5, c6, c7, c8, c9, c10, c11, c12⟩ := HCC.out w' hw'; go_simp; with_reducible rfl)
          simp only [Act.put, List.setIfInBounds_toArray, List.set_cons_zero, List.set_cons_succ]
          apply wpB_val rfl
          · (intro w' hw'; obtain ⟨c0, c1, c2, c3, c4, c5, c6, c7, c8, c9, c10, c11, c12⟩ := HCC.out w' hw'; go_simp; with_reducible rfl)
          simp only [Act.put, List.setIfInBounds_toArray, List.set_cons_zero, List.set_cons_succ]
          apply wpB_val rfl
          · (intro w' hw'; obtain ⟨c0, c1, c2, c3, c4, c5, c6, c7, c8, c9, c10, c11, c12⟩ := HCC.out w' hw'; go_simp; with_reducible rfl)
          simp only [Act.put, List.setIfInBounds_toArray, List.set_cons_zero, List.set_cons_succ]
          apply wpB_val rfl
          · (intro w' hw'; obtain ⟨c0, c1, c2, c3, c4, c5, c6, c7, c8, c9, c10, c11, c12⟩ := HCC.out w' hw'; go_simp; with_reducible rfl)
          simp only [Act.put, List.setIfInBounds_toArray, List.set_cons_zero, List.set_cons_succ]
          ((with_reducible refine wpB_move ?_ ?_); exact rfl; simp only [Act.put, List.setIfInBounds_toArray, List.set_cons_zero, List.set_cons_succ])
          apply wpB_call 28 #[recV r, .int .u64 (k.k2 : Nat)] rfl (v := _)
          · (intro w'; go_simp)
          · exact fun w' hw' => HS.out w'
          simp only [Act.put, List.setIfInBounds_toArray, List.set_cons_zero, List.set_cons_succ]
          apply wpB_val rfl
          · (intro w' hw'; go_simp; with_reducible rfl)
          simp only [Act.put, List.setIfInBounds_toArray, List.set_cons_zero, List.set_cons_succ]
          refine wpB_nil (HR.out _ (fun w2 hw2 => ?_))
          clear HR HCC
          have HB2 := Lib.hid (below_step HB1.out hw2)
          clear hw2
          go_wp2
          go_roundw
          case rel => exact ⟨3, by omega, rfl, HOK2.out, HB2.out⟩
          case measure => simp [intOf]
        · have hgb : ((r.g2 : Int) == (G : Int)) = false := by rw [beq_eq_false_iff_ne]; omega
          obtain rfl : 2 = V := by rw [← HV.out]; exact (HNE.out hg).symm
          have hix : ∀ w, (Instr.index 60 (.agg #[.int .u64 (k.k0 : Nat), .int .u64 (k.k1 : Nat), .int .u64 (k.k2 : Nat), .int .u64 (k.k3 : Nat)]) (.int .i64 2)).run Tryz.prog w = .ok (.int .u64 (k.k2 : Nat)) w := fun _ => by kernel_rfl
          go_wp2_with fail
          clear hix
          refine wp_region_B 8 (fun w'' => Below wr.heap.size wr w'') mixed (by kernel_rfl) (below_closed wr) (Below.refl _ _).drew ?_
          simp only [List.take_succ_cons, List.take_zero, List.drop_succ_cons, List.drop_zero]
          intro KR hR
          have HR := Lib.hid hR
          clear hR
          have HCC := Lib.hid (show ∀ w'', Below wr.heap.size wr w'' → w''.cell? ⟨w.heap.size, 0, none⟩ = some (.int .i64 r.se) ∧ w''.cell? ⟨w.heap.size, 1, none⟩ = some (.int .i64 r.ch) ∧ w''.cell? ⟨w.heap.size, 2, none⟩ = some (.int .i64 r.ca) ∧ w''.cell? ⟨w.heap.size, 3, none⟩ = some (.int .i64 r.ho) ∧ w''.cell? ⟨w.heap.size, 4, none⟩ = some (.int .i64 r.hs) ∧ w''.cell? ⟨w.heap.size, 5, none⟩ = some (.int .i64 r.fi) ∧ w''.cell? ⟨w.heap.size, 6, none⟩ = some (.int .i64 r.la) ∧ w''.cell? ⟨w.heap.size, 7, none⟩ = some (.int .i64 r.en) ∧ w''.cell? ⟨w.heap.size, 8, none⟩ = some (.int .i64 r.am) ∧ w''.cell? ⟨w.heap.size, 9, none⟩ = some (.int .u64 (r.g0 : Nat)) ∧ w''.cell? ⟨w.heap.size, 10, none⟩ = some (.int .u64 (r.g1 : Nat)) ∧ w''.cell? ⟨w.heap.size, 11, none⟩ = some (.int .u64 (r.g2 : Nat)) ∧ w''.cell? ⟨w.heap.size, 12, none⟩ = some (.int .u64 (r.g3 : Nat)) from fun w'' hw => ⟨(HX1.out.later hw).cell 0, (HX1.out.later hw).cell 1, (HX1.out.later hw).cell 2, (HX1.out.later hw).cell 3, (HX1.out.later hw).cell 4, (HX1.out.later hw).cell 5, (HX1.out.later hw).cell 6, (HX1.out.later hw).cell 7, (HX1.out.later hw).cell 8, (HX1.out.later hw).cell 9, (HX1.out.later hw).cell 10, (HX1.out.later hw).cell 11, (HX1.out.later hw).cell 12⟩)
          ((with_reducible refine wpB_move ?_ ?_); exact rfl; simp only [Act.put, List.setIfInBounds_toArray, List.set_cons_zero, List.set_cons_succ])
          apply wpB_val rfl
          · (intro w' hw'; obtain ⟨c0, c1, c2, c3, c4, c5, c6, c7, c8, c9, c10, c11, c12⟩ := HCC.out w' hw'; go_simp; with_reducible rfl)
          simp only [Act.put, List.setIfInBounds_toArray, List.set_cons_zero, List.set_cons_succ]
          apply wpB_val rfl
          · (intro w' hw'; obtain ⟨c0, c1, c2, c3, c4, c5, c6, c7, c8, c9, c10, c11, c12⟩ := HCC.out w' hw'; go_simp; with_reducible rfl)
          simp only [Act.put, List.setIfInBounds_toArray, List.set_cons_zero, List.set_cons_succ]
          apply wpB_val rfl
          · (intro w' hw'; obtain ⟨c0, c1, c2, c3, c4, c5, c6, c7, c8, c9, c10, c11, c12⟩ := HCC.out w' hw'; go_simp; with_reducible rfl)
          simp only [Act.put, List.setIfInBounds_toArray, List.set_cons_zero, List.set_cons_succ]
          apply wpB_val rfl
          · (intro w' hw'; obtain ⟨c0, c1, c2, c3, c4, c5, c6, c7, c8, c9, c10, c11, c12⟩ := HCC.out w' hw'; go_simp; with_reducible rfl)
          simp only [Act.put, List.setIfInBounds_toArray, List.set_cons_zero, List.set_cons_succ]
          ((with_reducible refine wpB_move ?_ ?_); exact rfl; simp only [Act.put, List.setIfInBounds_toArray, List.set_cons_zero, List.set_cons_succ])
          apply wpB_call 28 #[recV r, .int .u64 (k.k2 : Nat)] rfl (v := _)
          · (intro w'; go_simp)
          · exact fun w' hw' => HS.out w'
          simp only [Act.put, List.setIfInBounds_toArray, List.set_cons_zero, List.set_cons_succ]
          apply wpB_val rfl
          · (intro w' hw'; go_simp; with_reducible rfl)
          simp only [Act.put, List.setIfInBounds_toArray, List.set_cons_zero, List.set_cons_succ]
          refine wpB_nil (HR.out _ (fun w2 hw2 => ?_))
          clear HR HCC
          have HB2 := Lib.hid (below_step HB1.out hw2)
          clear hw2
          go_wp2
          go_ret
          exact ⟨rfl, below_step HB.out HB2.out⟩
      · rw [show ((3 : Nat) : Int) = 3 from rfl]
        have HS := Lib.hid (fun w' => rSign_any r k.k3 k.h3 w')
        have HE := Lib.hid (show r.g3 = sig r k.k3 → okUpto r k 4 from fun h => ⟨fun _ => HOK.out.1 (by decide), fun hh => HOK.out.2.1 (by decide), fun hh => HOK.out.2.2.1 (by decide), fun hh => h⟩)
        have HNE := Lib.hid (fun h => chkC_at3 HVA.out HOK.out h)
        obtain ⟨G, hG⟩ : ∃ G, sig r k.k3 = G := ⟨_, rfl⟩
        rw [hG] at HS HE HNE
        clear hG
        by_cases hg : r.g3 = G
        · have HOK2 := Lib.hid (HE.out hg)
          subst hg
          have hix : ∀ w, (Instr.index 60 (.agg #[.int .u64 (k.k0 : Nat), .int .u64 (k.k1 : Nat), .int .u64 (k.k2 : Nat), .int .u64 (k.k3 : Nat)]) (.int .i64 3)).run Tryz.prog w = .ok (.int .u64 (k.k3 : Nat)) w := fun _ => by kernel_rfl
          go_wp2_with fail
          clear hix
          refine wp_region_B 8 (fun w'' => Below wr.heap.size wr w'') mixed (by kernel_rfl) (below_closed wr) (Below.refl _ _).drew ?_
          simp only [List.take_succ_cons, List.take_zero, List.drop_succ_cons, List.drop_zero]
          intro KR hR
          have HR := Lib.hid hR
          clear hR
          have HCC := Lib.hid (show ∀ w'', Below wr.heap.size wr w'' → w''.cell? ⟨w.heap.size, 0, none⟩ = some (.int .i64 r.se) ∧ w''.cell? ⟨w.heap.size, 1, none⟩ = some (.int .i64 r.ch) ∧ w''.cell? ⟨w.heap.size, 2, none⟩ = some (.int .i64 r.ca) ∧ w''.cell? ⟨w.heap.size, 3, none⟩ = some (.int .i64 r.ho) ∧ w''.cell? ⟨w.heap.size, 4, none⟩ = some (.int .i64 r.hs) ∧ w''.cell? ⟨w.heap.size, 5, none⟩ = some (.int .i64 r.fi) ∧ w''.cell? ⟨w.heap.size, 6, none⟩ = some (.int .i64 r.la) ∧ w''.cell? ⟨w.heap.size, 7, none⟩ = some (.int .i64 r.en) ∧ w''.cell? ⟨w.heap.size, 8, none⟩ = some (.int .i64 r.am) ∧ w''.cell? ⟨w.heap.size, 9, none⟩ = some (.int .u64 (r.g0 : Nat)) ∧ w''.cell? ⟨w.heap.size, 10, none⟩ = some (.int .u64 (r.g1 : Nat)) ∧ w''.cell? ⟨w.heap.size, 11, none⟩ = some (.int .u64 (r.g2 : Nat)) ∧ w''.cell? ⟨w.heap.size, 12, none⟩ = some (.int .u64 (r.g3 : Nat)) from fun w'' hw => ⟨(HX1.out.later hw).cell 0, (HX1.out.later hw).cell 1, (HX1.out.later hw).cell 2, (HX1.out.later hw).cell 3, (HX1.out.later hw).cell 4, (HX1.out.later hw).cell 5, (HX1.out.later hw).cell 6, (HX1.out.later hw).cell 7, (HX1.out.later hw).cell 8, (HX1.out.later hw).cell 9, (HX1.out.later hw).cell 10, (HX1.out.later hw).cell 11, (HX1.out.later hw).cell 12⟩)
          ((with_reducible refine wpB_move ?_ ?_); exact rfl; simp only [Act.put, List.setIfInBounds_toArray, List.set_cons_zero, List.set_cons_succ])
          apply wpB_val rfl
          · (intro w' hw'; obtain ⟨c0, c1, c2, c3, c4, c5, c6, c7, c8, c9, c10, c11, c12⟩ := HCC.out w' hw'; go_simp; with_reducible rfl)
          simp only [Act.put, List.setIfInBounds_toArray, List.set_cons_zero, List.set_cons_succ]
          apply wpB_val rfl
          · (intro w' hw'; obtain ⟨c0, c1, c2, c3, c4, c5, c6, c7, c8, c9, c10, c11, c12⟩ := HCC.out w' hw'; go_simp; with_reducible rfl)
          simp only [Act.put, List.setIfInBounds_toArray, List.set_cons_zero, List.set_cons_succ]
          apply wpB_val rfl
          · (intro w' hw'; obtain ⟨c0, c1, c2, c3, c4, c5, c6, c7, c8, c9, c10, c11, c12⟩ := HCC.out w' hw'; go_simp; with_reducible rfl)
          simp only [Act.put, List.setIfInBounds_toArray, List.set_cons_zero, List.set_cons_succ]
          apply wpB_val rfl
          · (intro w' hw'; obtain ⟨c0, c1, c2, c3, c4, c5, c6, c7, c8, c9, c10, c11, c12⟩ := HCC.out w' hw'; go_simp; with_reducible rfl)
          simp only [Act.put, List.setIfInBounds_toArray, List.set_cons_zero, List.set_cons_succ]
          ((with_reducible refine wpB_move ?_ ?_); exact rfl; simp only [Act.put, List.setIfInBounds_toArray, List.set_cons_zero, List.set_cons_succ])
          apply wpB_call 28 #[recV r, .int .u64 (k.k3 : Nat)] rfl (v := _)
          · (intro w'; go_simp)
          · exact fun w' hw' => HS.out w'
          simp only [Act.put, List.setIfInBounds_toArray, List.set_cons_zero, List.set_cons_succ]
          apply wpB_val rfl
          · (intro w' hw'; go_simp; with_reducible rfl)
          simp only [Act.put, List.setIfInBounds_toArray, List.set_cons_zero, List.set_cons_succ]
          refine wpB_nil (HR.out _ (fun w2 hw2 => ?_))
          clear HR HCC
          have HB2 := Lib.hid (below_step HB1.out hw2)
          clear hw2
          go_wp2
          go_roundw
          case rel => exact ⟨4, by omega, rfl, HOK2.out, HB2.out⟩
          case measure => simp [intOf]
        · have hgb : ((r.g3 : Int) == (G : Int)) = false := by rw [beq_eq_false_iff_ne]; omega
          obtain rfl : 3 = V := by rw [← HV.out]; exact (HNE.out hg).symm
          have hix : ∀ w, (Instr.index 60 (.agg #[.int .u64 (k.k0 : Nat), .int .u64 (k.k1 : Nat), .int .u64 (k.k2 : Nat), .int .u64 (k.k3 : Nat)]) (.int .i64 3)).run Tryz.prog w = .ok (.int .u64 (k.k3 : Nat)) w := fun _ => by kernel_rfl
          go_wp2_with fail
          clear hix
          refine wp_region_B 8 (fun w'' => Below wr.heap.size wr w'') mixed (by kernel_rfl) (below_closed wr) (Below.refl _ _).drew ?_
          simp only [List.take_succ_cons, List.take_zero, List.drop_succ_cons, List.drop_zero]
          intro KR hR
          have HR := Lib.hid hR
          clear hR
          have HCC := Lib.hid (show ∀ w'', Below wr.heap.size wr w'' → w''.cell? ⟨w.heap.size, 0, none⟩ = some (.int .i64 r.se) ∧ w''.cell? ⟨w.heap.size, 1, none⟩ = some (.int .i64 r.ch) ∧ w''.cell? ⟨w.heap.size, 2, none⟩ = some (.int .i64 r.ca) ∧ w''.cell? ⟨w.heap.size, 3, none⟩ = some (.int .i64 r.ho) ∧ w''.cell? ⟨w.heap.size, 4, none⟩ = some (.int .i64 r.hs) ∧ w''.cell? ⟨w.heap.size, 5, none⟩ = some (.int .i64 r.fi) ∧ w''.cell? ⟨w.heap.size, 6, none⟩ = some (.int .i64 r.la) ∧ w''.cell? ⟨w.heap.size, 7, none⟩ = some (.int .i64 r.en) ∧ w''.cell? ⟨w.heap.size, 8, none⟩ = some (.int .i64 r.am) ∧ w''.cell? ⟨w.heap.size, 9, none⟩ = some (.int .u64 (r.g0 : Nat)) ∧ w''.cell? ⟨w.heap.size, 10, none⟩ = some (.int .u64 (r.g1 : Nat)) ∧ w''.cell? ⟨w.heap.size, 11, none⟩ = some (.int .u64 (r.g2 : Nat)) ∧ w''.cell? ⟨w.heap.size, 12, none⟩ = some (.int .u64 (r.g3 : Nat)) from fun w'' hw => ⟨(HX1.out.later hw).cell 0, (HX1.out.later hw).cell 1, (HX1.out.later hw).cell 2, (HX1.out.later hw).cell 3, (HX1.out.later hw).cell 4, (HX1.out.later hw).cell 5, (HX1.out.later hw).cell 6, (HX1.out.later hw).cell 7, (HX1.out.later hw).cell 8, (HX1.out.later hw).cell 9, (HX1.out.later hw).cell 10, (HX1.out.later hw).cell 11, (HX1.out.later hw).cell 12⟩)
          ((with_reducible refine wpB_move ?_ ?_); exact rfl; simp only [Act.put, List.setIfInBounds_toArray, List.set_cons_zero, List.set_cons_succ])
          apply wpB_val rfl
          · (intro w' hw'; obtain ⟨c0, c1, c2, c3, c4, c5, c6, c7, c8, c9, c10, c11, c12⟩ := HCC.out w' hw'; go_simp; with_reducible rfl)
          simp only [Act.put, List.setIfInBounds_toArray, List.set_cons_zero, List.set_cons_succ]
          apply wpB_val rfl
          · (intro w' hw'; obtain ⟨c0, c1, c2, c3, c4, c5, c6, c7, c8, c9, c10, c11, c12⟩ := HCC.out w' hw'; go_simp; with_reducible rfl)
          simp only [Act.put, List.setIfInBounds_toArray, List.set_cons_zero, List.set_cons_succ]
          apply wpB_val rfl
          · (intro w' hw'; obtain ⟨c0, c1, c2, c3, c4, c5, c6, c7, c8, c9, c10, c11, c12⟩ := HCC.out w' hw'; go_simp; with_reducible rfl)
          simp only [Act.put, List.setIfInBounds_toArray, List.set_cons_zero, List.set_cons_succ]
          apply wpB_val rfl
          · (intro w' hw'; obtain ⟨c0, c1, c2, c3, c4, c5, c6, c7, c8, c9, c10, c11, c12⟩ := HCC.out w' hw'; go_simp; with_reducible rfl)
          simp only [Act.put, List.setIfInBounds_toArray, List.set_cons_zero, List.set_cons_succ]
          ((with_reducible refine wpB_move ?_ ?_); exact rfl; simp only [Act.put, List.setIfInBounds_toArray, List.set_cons_zero, List.set_cons_succ])
          apply wpB_call 28 #[recV r, .int .u64 (k.k3 : Nat)] rfl (v := _)
          · (intro w'; go_simp)
          · exact fun w' hw' => HS.out w'
          simp only [Act.put, List.setIfInBounds_toArray, List.set_cons_zero, List.set_cons_succ]
          apply wpB_val rfl
          · (intro w' hw'; go_simp; with_reducible rfl)
          simp only [Act.put, List.setIfInBounds_toArray, List.set_cons_zero, List.set_cons_succ]
          refine wpB_nil (HR.out _ (fun w2 hw2 => ?_))
          clear HR HCC
          have HB2 := Lib.hid (below_step HB1.out hw2)
          clear hw2
          go_wp2
          go_ret
          exact ⟨rfl, below_step HB.out HB2.out⟩
      · rw [show ((4 : Nat) : Int) = 4 from rfl]
        obtain rfl : -1 = V := by rw [← HV.out]; exact (chkC_all HVA.out HOK.out).symm
        go_wp2
        go_ret
        exact ⟨rfl, below_step HB.out HB1.out⟩

end
/-! ### Wd41 -/
section
open Go.RowKit
attribute [local go_sem] Oper.semAt_some

def zeroRc : Rc := ⟨0, 0, 0, 0, 0, 0, 0, 0, 0, 0, 0, 0, 0⟩
def enZero (r : Rc) : Rc := { r with en := 0 }
def clOk (r : Rc) (l : List Rd) : Bool := validC (enZero r) && enOk l r.fi r.la
/-- Signed by the first n parties. -/
def sgd (r : Rc) (k : K4) : Nat → Rc
  | 0 => r
  | 1 => { r with g0 := sig r k.k0 }
  | 2 => { r with g0 := sig r k.k0, g1 := sig r k.k1 }
  | 3 => { r with g0 := sig r k.k0, g1 := sig r k.k1, g2 := sig r k.k2 }
  | _ => { r with g0 := sig r k.k0, g1 := sig r k.k1, g2 := sig r k.k2, g3 := sig r k.k3 }
def clRec (r : Rc) (l : List Rd) (k : K4) : Rc := if clOk r l then sgd { r with en := enN l r.fi r.la } k 4 else zeroRc
theorem sig_sgd (r : Rc) (k : K4) (z : Nat) : ∀ n, sig (sgd r k n) z = sig r z
  | 0 => by simp only [sig, sgd]
  | 1 => by simp only [sig, sgd]
  | 2 => by simp only [sig, sgd]
  | 3 => by simp only [sig, sgd]
  | _ + 4 => by simp only [sig, sgd]
theorem sgd_1 (r : Rc) (k : K4) : sgd r k 1 = { sgd r k 0 with g0 := sig r k.k0 } := by simp only [sgd]
theorem sgd_2 (r : Rc) (k : K4) : sgd r k 2 = { sgd r k 1 with g1 := sig r k.k1 } := by simp only [sgd]
theorem sgd_3 (r : Rc) (k : K4) : sgd r k 3 = { sgd r k 2 with g2 := sig r k.k2 } := by simp only [sgd]
theorem sgd_4 (r : Rc) (k : K4) : sgd r k 4 = { sgd r k 3 with g3 := sig r k.k3 } := by simp only [sgd]
def clV (r : Rc) (l : List Rd) (k : K4) : Value := .tuple #[recV (clRec r l k), .int .i64 (if clOk r l then 0 else 1)]
theorem clV_no {r : Rc} {l : List Rd} {k : K4} (h : clOk r l = false) : clV r l k = .tuple #[.agg #[.int .i64 0, .int .i64 0, .int .i64 0, .int .i64 0, .int .i64 0, .int .i64 0, .int .i64 0, .int .i64 0, .int .i64 0, .int .u64 0, .int .u64 0, .int .u64 0, .int .u64 0], .int .i64 1] := by
  unfold clV clRec
  rw [h]
  rfl
theorem clV_yes {r : Rc} {l : List Rd} {k : K4} (h : clOk r l = true) : clV r l k = .tuple #[recV (sgd { r with en := enN l r.fi r.la } k 4), .int .i64 0] := by
  unfold clV clRec
  rw [h]
  rfl

theorem arr13 (a0 a1 a2 a3 a4 a5 a6 a7 a8 a9 a10 a11 a12 v0 v1 v2 v3 v4 v5 v6 v7 v8 v9 v10 v11 v12 : Value) : (((((((((((((#[a0, a1, a2, a3, a4, a5, a6, a7, a8, a9, a10, a11, a12].setIfInBounds 0 v0).setIfInBounds 1 v1).setIfInBounds 2 v2).setIfInBounds 3 v3).setIfInBounds 4 v4).setIfInBounds 5 v5).setIfInBounds 6 v6).setIfInBounds 7 v7).setIfInBounds 8 v8).setIfInBounds 9 v9).setIfInBounds 10 v10).setIfInBounds 11 v11).setIfInBounds 12 v12) = #[v0, v1, v2, v3, v4, v5, v6, v7, v8, v9, v10, v11, v12] := by
  simp [List.set]
/-- A whole record is stored. -/
def putRc (w : World) (B : Nat) (r : Rc) : World := (((((((((((((w.setCell ⟨B, 0, none⟩ (.int .i64 r.se)).setCell ⟨B, 1, none⟩ (.int .i64 r.ch)).setCell ⟨B, 2, none⟩ (.int .i64 r.ca)).setCell ⟨B, 3, none⟩ (.int .i64 r.ho)).setCell ⟨B, 4, none⟩ (.int .i64 r.hs)).setCell ⟨B, 5, none⟩ (.int .i64 r.fi)).setCell ⟨B, 6, none⟩ (.int .i64 r.la)).setCell ⟨B, 7, none⟩ (.int .i64 r.en)).setCell ⟨B, 8, none⟩ (.int .i64 r.am)).setCell ⟨B, 9, none⟩ (.int .u64 (r.g0 : Nat))).setCell ⟨B, 10, none⟩ (.int .u64 (r.g1 : Nat))).setCell ⟨B, 11, none⟩ (.int .u64 (r.g2 : Nat))).setCell ⟨B, 12, none⟩ (.int .u64 (r.g3 : Nat)))
theorem RcB.put {wr : World} {B : Nat} {r0 : Rc} (h : RcB wr B r0) (r : Rc) : RcB (putRc wr B r) B r := by
  have := (((((((((((((h.set 0 (.int .i64 r.se)).set 1 (.int .i64 r.ch)).set 2 (.int .i64 r.ca)).set 3 (.int .i64 r.ho)).set 4 (.int .i64 r.hs)).set 5 (.int .i64 r.fi)).set 6 (.int .i64 r.la)).set 7 (.int .i64 r.en)).set 8 (.int .i64 r.am)).set 9 (.int .u64 (r.g0 : Nat))).set 10 (.int .u64 (r.g1 : Nat))).set 11 (.int .u64 (r.g2 : Nat))).set 12 (.int .u64 (r.g3 : Nat)))
  rw [arr13] at this
  exact this
theorem below_putRc {n B : Nat} {w wr : World} (hb : Below n w wr) (hB : n ≤ B) (r : Rc) : Below n w (putRc wr B r) := (((((((((((((hb.setCell hB (.int .i64 r.se)).setCell hB (.int .i64 r.ch)).setCell hB (.int .i64 r.ca)).setCell hB (.int .i64 r.ho)).setCell hB (.int .i64 r.hs)).setCell hB (.int .i64 r.fi)).setCell hB (.int .i64 r.la)).setCell hB (.int .i64 r.en)).setCell hB (.int .i64 r.am)).setCell hB (.int .u64 (r.g0 : Nat))).setCell hB (.int .u64 (r.g1 : Nat))).setCell hB (.int .u64 (r.g2 : Nat))).setCell hB (.int .u64 (r.g3 : Nat)))
theorem other_putRc {g B : Nat} {t : TypeId} {cs : Array Value} {wr : World} (h : Blk wr g t cs) (hB : g ≠ B) (r : Rc) : Blk (putRc wr B r) g t cs := (((((((((((((h.other (p := ⟨B, 0, none⟩) hB (.int .i64 r.se)).other (p := ⟨B, 1, none⟩) hB (.int .i64 r.ch)).other (p := ⟨B, 2, none⟩) hB (.int .i64 r.ca)).other (p := ⟨B, 3, none⟩) hB (.int .i64 r.ho)).other (p := ⟨B, 4, none⟩) hB (.int .i64 r.hs)).other (p := ⟨B, 5, none⟩) hB (.int .i64 r.fi)).other (p := ⟨B, 6, none⟩) hB (.int .i64 r.la)).other (p := ⟨B, 7, none⟩) hB (.int .i64 r.en)).other (p := ⟨B, 8, none⟩) hB (.int .i64 r.am)).other (p := ⟨B, 9, none⟩) hB (.int .u64 (r.g0 : Nat))).other (p := ⟨B, 10, none⟩) hB (.int .u64 (r.g1 : Nat))).other (p := ⟨B, 11, none⟩) hB (.int .u64 (r.g2 : Nat))).other (p := ⟨B, 12, none⟩) hB (.int .u64 (r.g3 : Nat)))

theorem RcB.setEn {wr : World} {B : Nat} {r : Rc} (h : RcB wr B (enZero r)) (N : Int) : RcB (wr.setCell ⟨B, 7, none⟩ (.int .i64 N)) B { r with en := N } := by
  have := Blk.set h 7 (.int .i64 N)
  simpa [RcB, enZero] using this
theorem RcB.setG0 {wr : World} {B : Nat} {r : Rc} (h : RcB wr B r) (G : Nat) : RcB (wr.setCell ⟨B, 9, none⟩ (.int .u64 (G : Nat))) B { r with g0 := G } := by
  have := Blk.set h 9 (.int .u64 (G : Nat))
  simpa [RcB] using this
theorem RcB.setG1 {wr : World} {B : Nat} {r : Rc} (h : RcB wr B r) (G : Nat) : RcB (wr.setCell ⟨B, 10, none⟩ (.int .u64 (G : Nat))) B { r with g1 := G } := by
  have := Blk.set h 10 (.int .u64 (G : Nat))
  simpa [RcB] using this
theorem RcB.setG2 {wr : World} {B : Nat} {r : Rc} (h : RcB wr B r) (G : Nat) : RcB (wr.setCell ⟨B, 11, none⟩ (.int .u64 (G : Nat))) B { r with g2 := G } := by
  have := Blk.set h 11 (.int .u64 (G : Nat))
  simpa [RcB] using this
theorem RcB.setG3 {wr : World} {B : Nat} {r : Rc} (h : RcB wr B r) (G : Nat) : RcB (wr.setCell ⟨B, 12, none⟩ (.int .u64 (G : Nat))) B { r with g3 := G } := by
  have := Blk.set h 12 (.int .u64 (G : Nat))
  simpa [RcB] using this

/-- The boxes of Close. -/
structure ClSt (w wr : World) (r : Rc) (k : K4) : Prop where
  rc : RcB wr w.heap.size r
  ky : KyB wr (w.heap.size + 1) k
  out : RcB wr (w.heap.size + 1 + 1) zeroRc
  bel : Below w.heap.size w wr
theorem ClSt.later {w wr wr' : World} {r : Rc} {k : K4} (h : ClSt w wr r k) (hb : Below wr.heap.size wr wr') : ClSt w wr' r k := ⟨h.rc.later hb, h.ky.later hb, h.out.later hb, below_step h.bel hb⟩
theorem ClSt.set {w wr : World} {r r' : Rc} {k : K4} (h : ClSt w wr r k) (j : Nat) (u : Value) (hr : RcB (wr.setCell ⟨w.heap.size, j, none⟩ u) w.heap.size r') : ClSt w (wr.setCell ⟨w.heap.size, j, none⟩ u) r' k :=
  ⟨hr, Blk.other h.ky (by simp) u, Blk.other h.out (by simp; omega) u, h.bel.setCell (Nat.le_refl _) u⟩
theorem ClSt.new (w : World) (r : Rc) (k : K4) : ClSt w (((w.alloc (.cells #[.int .i64 r.se, .int .i64 r.ch, .int .i64 r.ca, .int .i64 r.ho, .int .i64 r.hs, .int .i64 r.fi, .int .i64 r.la, .int .i64 r.en, .int .i64 r.am, .int .u64 (r.g0 : Nat), .int .u64 (r.g1 : Nat), .int .u64 (r.g2 : Nat), .int .u64 (r.g3 : Nat)] 62)).alloc (.cells #[.int .u64 (k.k0 : Nat), .int .u64 (k.k1 : Nat), .int .u64 (k.k2 : Nat), .int .u64 (k.k3 : Nat)] 60)).alloc (.cells #[.int .i64 0, .int .i64 0, .int .i64 0, .int .i64 0, .int .i64 0, .int .i64 0, .int .i64 0, .int .i64 0, .int .i64 0, .int .u64 0, .int .u64 0, .int .u64 0, .int .u64 0] 62)) r k := by
  refine ⟨((RcB.new w r).later (below_alloc (Below.refl _ _) _)).later (below_alloc (Below.refl _ _) _), ?_, ?_, below_alloc (below_alloc (below_alloc (Below.refl _ _) _) _) _⟩
  · have h := Blk.new (w.alloc (.cells #[.int .i64 r.se, .int .i64 r.ch, .int .i64 r.ca, .int .i64 r.ho, .int .i64 r.hs, .int .i64 r.fi, .int .i64 r.la, .int .i64 r.en, .int .i64 r.am, .int .u64 (r.g0 : Nat), .int .u64 (r.g1 : Nat), .int .u64 (r.g2 : Nat), .int .u64 (r.g3 : Nat)] 62)) 60 #[.int .u64 (k.k0 : Nat), .int .u64 (k.k1 : Nat), .int .u64 (k.k2 : Nat), .int .u64 (k.k3 : Nat)]
    rw [World.size_alloc] at h
    exact KyB.later h (below_alloc (Below.refl _ _) _)
  · have h := Blk.new ((w.alloc (.cells #[.int .i64 r.se, .int .i64 r.ch, .int .i64 r.ca, .int .i64 r.ho, .int .i64 r.hs, .int .i64 r.fi, .int .i64 r.la, .int .i64 r.en, .int .i64 r.am, .int .u64 (r.g0 : Nat), .int .u64 (r.g1 : Nat), .int .u64 (r.g2 : Nat), .int .u64 (r.g3 : Nat)] 62)).alloc (.cells #[.int .u64 (k.k0 : Nat), .int .u64 (k.k1 : Nat), .int .u64 (k.k2 : Nat), .int .u64 (k.k3 : Nat)] 60)) 62 #[.int .i64 0, .int .i64 0, .int .i64 0, .int .i64 0, .int .i64 0, .int .i64 0, .int .i64 0, .int .i64 0, .int .i64 0, .int .u64 0, .int .u64 0, .int .u64 0, .int .u64 0]
    rw [World.size_alloc, World.size_alloc] at h
    exact h

set_option maxRecDepth 100000 in
set_option maxHeartbeats 8000000 in
theorem rClose_any (r : Rc) (o : Option Addr) (cap : Nat) (l : List Rd) (k : K4) (w : World) (hr : Rds w o l) (hl : l.length ≤ 9223372036854775807) :
    Calls Tryz.prog 15 #[recV r, .slice o l.length cap, keyV k] w (Ret (clV r l k) w) := by
  have HR := Lib.hid hr
  clear hr
  obtain ⟨V, hV⟩ : ∃ V, clV r l k = V := ⟨_, rfl⟩
  rw [hV]
  have HV := Lib.hid hV
  clear hV
  go_enter Tryz.func15, Tryz.ntmps15
  have HC0 := Lib.hid (ClSt.new w (enZero r) k)
  go_wp2_with fail
  refine (rvalid_any (enZero r) _).mono ?_
  rintro e w1 ⟨rfl, hb1⟩
  have HC1 := Lib.hid (HC0.out.later hb1)
  clear hb1 HC0
  have z0 := HC1.out.out.lt
  cases hv : validC (enZero r) with
  | false =>
    have HN := Lib.hid (clV_no (k := k) (show clOk r l = false by unfold clOk; rw [hv]; rfl))
    have oz := HC1.out.out
    have o0 := oz.cell 0
    have o1 := oz.cell 1
    have o2 := oz.cell 2
    have o3 := oz.cell 3
    have o4 := oz.cell 4
    have o5 := oz.cell 5
    have o6 := oz.cell 6
    have o7 := oz.cell 7
    have o8 := oz.cell 8
    have o9 := oz.cell 9
    have o10 := oz.cell 10
    have o11 := oz.cell 11
    have o12 := oz.cell 12
    have f0 := oz.frozen 0
    have f1 := oz.frozen 1
    have f2 := oz.frozen 2
    have f3 := oz.frozen 3
    have f4 := oz.frozen 4
    have f5 := oz.frozen 5
    have f6 := oz.frozen 6
    have f7 := oz.frozen 7
    have f8 := oz.frozen 8
    have f9 := oz.frozen 9
    have f10 := oz.frozen 10
    have f11 := oz.frozen 11
    have f12 := oz.frozen 12
    clear oz
    simp [zeroRc] at o0 o1 o2 o3 o4 o5 o6 o7 o8 o9 o10 o11 o12
    go_wp2
    clear o0 o1 o2 o3 o4 o5 o6 o7 o8 o9 o10 o11 o12 f0 f1 f2 f3 f4 f5 f6 f7 f8 f9 f10 f11 f12
    have HP := Lib.hid (HC1.out.out.put zeroRc)
    have HBP := Lib.hid (below_putRc HC1.out.bel (show w.heap.size ≤ w.heap.size + 1 + 1 by omega) zeroRc)
    change bodyPost _ _ _ _ _ (putRc w1 (w.heap.size + 1 + 1) zeroRc)
    obtain ⟨W, hW⟩ : ∃ W, putRc w1 (w.heap.size + 1 + 1) zeroRc = W := ⟨_, rfl⟩
    rw [hW] at HP HBP ⊢
    clear hW
    have oz := HP.out
    have o0 := oz.cell 0
    have o1 := oz.cell 1
    have o2 := oz.cell 2
    have o3 := oz.cell 3
    have o4 := oz.cell 4
    have o5 := oz.cell 5
    have o6 := oz.cell 6
    have o7 := oz.cell 7
    have o8 := oz.cell 8
    have o9 := oz.cell 9
    have o10 := oz.cell 10
    have o11 := oz.cell 11
    have o12 := oz.cell 12
    clear oz
    simp [zeroRc] at o0 o1 o2 o3 o4 o5 o6 o7 o8 o9 o10 o11 o12
    refine bodyPost_ret (v := .tuple #[.agg #[.int .i64 0, .int .i64 0, .int .i64 0, .int .i64 0, .int .i64 0, .int .i64 0, .int .i64 0, .int .i64 0, .int .i64 0, .int .u64 0, .int .u64 0, .int .u64 0, .int .u64 0], .int .i64 1]) (by simp [results, Tryz.results15, go_sem, o0, o1, o2, o3, o4, o5, o6, o7, o8, o9, o10, o11, o12]) rfl ⟨by rw [← HV.out, HN.out], HBP.out⟩
  | true =>
    have HVL := Lib.hid hv
    clear hv
    have c5 : w1.cell? ⟨w.heap.size, 5, none⟩ = some (.int .i64 r.fi) := HC1.out.rc.cell 5
    have c6 : w1.cell? ⟨w.heap.size, 6, none⟩ = some (.int .i64 r.la) := HC1.out.rc.cell 6
    go_wp2_with fail
    clear c5 c6
    refine (Energy_any o cap l r.fi r.la w1 (HR.out.later HC1.out.bel) hl).mono ?_
    rintro e w2 ⟨rfl, hb2⟩
    have HC2 := Lib.hid (HC1.out.later hb2)
    clear hb2 HC1 z0
    have z0 := HC2.out.out.lt
    cases he : enOk l r.fi r.la with
    | false =>
      rw [show enV l r.fi r.la = .tuple #[.int .i64 (enN l r.fi r.la), .int .i64 1] from by unfold enV; rw [he]; rfl]
      have HN := Lib.hid (clV_no (k := k) (show clOk r l = false by unfold clOk; rw [he, Bool.and_false]))
      have oz := HC2.out.out
      have o0 := oz.cell 0
      have o1 := oz.cell 1
      have o2 := oz.cell 2
      have o3 := oz.cell 3
      have o4 := oz.cell 4
      have o5 := oz.cell 5
      have o6 := oz.cell 6
      have o7 := oz.cell 7
      have o8 := oz.cell 8
      have o9 := oz.cell 9
      have o10 := oz.cell 10
      have o11 := oz.cell 11
      have o12 := oz.cell 12
      have f0 := oz.frozen 0
      have f1 := oz.frozen 1
      have f2 := oz.frozen 2
      have f3 := oz.frozen 3
      have f4 := oz.frozen 4
      have f5 := oz.frozen 5
      have f6 := oz.frozen 6
      have f7 := oz.frozen 7
      have f8 := oz.frozen 8
      have f9 := oz.frozen 9
      have f10 := oz.frozen 10
      have f11 := oz.frozen 11
      have f12 := oz.frozen 12
      clear oz
      simp [zeroRc] at o0 o1 o2 o3 o4 o5 o6 o7 o8 o9 o10 o11 o12
      go_wp2
      clear o0 o1 o2 o3 o4 o5 o6 o7 o8 o9 o10 o11 o12 f0 f1 f2 f3 f4 f5 f6 f7 f8 f9 f10 f11 f12
      have HP := Lib.hid (HC2.out.out.put zeroRc)
      have HBP := Lib.hid (below_putRc HC2.out.bel (show w.heap.size ≤ w.heap.size + 1 + 1 by omega) zeroRc)
      change bodyPost _ _ _ _ _ (putRc w2 (w.heap.size + 1 + 1) zeroRc)
      obtain ⟨W, hW⟩ : ∃ W, putRc w2 (w.heap.size + 1 + 1) zeroRc = W := ⟨_, rfl⟩
      rw [hW] at HP HBP ⊢
      clear hW
      have oz := HP.out
      have o0 := oz.cell 0
      have o1 := oz.cell 1
      have o2 := oz.cell 2
      have o3 := oz.cell 3
      have o4 := oz.cell 4
      have o5 := oz.cell 5
      have o6 := oz.cell 6
      have o7 := oz.cell 7
      have o8 := oz.cell 8
      have o9 := oz.cell 9
      have o10 := oz.cell 10
      have o11 := oz.cell 11
      have o12 := oz.cell 12
      clear oz
      simp [zeroRc] at o0 o1 o2 o3 o4 o5 o6 o7 o8 o9 o10 o11 o12
      refine bodyPost_ret (v := .tuple #[.agg #[.int .i64 0, .int .i64 0, .int .i64 0, .int .i64 0, .int .i64 0, .int .i64 0, .int .i64 0, .int .i64 0, .int .i64 0, .int .u64 0, .int .u64 0, .int .u64 0, .int .u64 0], .int .i64 1]) (by simp [results, Tryz.results15, go_sem, o0, o1, o2, o3, o4, o5, o6, o7, o8, o9, o10, o11, o12]) rfl ⟨by rw [← HV.out, HN.out], HBP.out⟩
    | true =>
      rw [show enV l r.fi r.la = .tuple #[.int .i64 (enN l r.fi r.la), .int .i64 0] from by unfold enV; rw [he]; rfl]
      have HN := Lib.hid (clV_yes (k := k) (show clOk r l = true by unfold clOk; rw [HVL.out, he]; rfl))
      clear he
      obtain ⟨N, hN⟩ : ∃ N, enN l r.fi r.la = N := ⟨_, rfl⟩
      rw [hN] at HN ⊢
      clear hN
      have f7 := HC2.out.rc.frozen 7
      have c7 : w2.cell? ⟨w.heap.size, 7, none⟩ = some (.int .i64 0) := HC2.out.rc.cell 7
      have HC3 := Lib.hid (HC2.out.set 7 (.int .i64 N) (RcB.setEn HC2.out.rc N))
      obtain ⟨k0, k1, k2, k3⟩ := HC3.out.ky.keys
      obtain ⟨k0', k1', k2', k3'⟩ := HC2.out.ky.keys
      go_wp2
      clear k0 k1 k2 k3 k0' k1' k2' k3' c7 f7
      obtain ⟨r1, hr1⟩ : ∃ r1 : Rc, { r with en := N } = r1 := ⟨_, rfl⟩
      rw [hr1] at HC3 HN
      clear hr1
      obtain ⟨w3, hw3⟩ : ∃ w3, w2.setCell ⟨w.heap.size, 7, none⟩ (.int .i64 N) = w3 := ⟨_, rfl⟩
      rw [hw3] at HC3 ⊢
      clear hw3 HC2
      go_loopw [33] (fun i wr => ∃ n : Nat, n ≤ 4 ∧ i = .int .i64 n ∧ ClSt w wr (sgd r1 k n) k) (fun i _ => 4 - (intOf i).toNat)
      case atStart => exact ⟨0, by omega, rfl, HC3.out⟩
      case round =>
        obtain ⟨n, hn, rfl, hc⟩ := hrel
        have HC := Lib.hid hc
        clear hc HC3
        rcases (by omega : n = 0 ∨ n = 1 ∨ n = 2 ∨ n = 3 ∨ n = 4) with rfl | rfl | rfl | rfl | rfl
        · rw [show ((0 : Nat) : Int) = 0 from rfl]
          have HS := Lib.hid (fun w' => rSign_any (sgd r1 k 0) k.k0 k.h0 w')
          rw [sig_sgd] at HS
          have HSG := Lib.hid (sgd_1 r1 k)
          obtain ⟨R, hR⟩ : ∃ R, sgd r1 k 0 = R := ⟨_, rfl⟩
          obtain ⟨G, hG⟩ : ∃ G, sig r1 k.k0 = G := ⟨_, rfl⟩
          rw [hR] at HC HS HSG
          rw [hG] at HS HSG
          clear hR hG
          have hix : ∀ w, (Instr.index 60 (.agg #[.int .u64 (k.k0 : Nat), .int .u64 (k.k1 : Nat), .int .u64 (k.k2 : Nat), .int .u64 (k.k3 : Nat)]) (.int .i64 0)).run Tryz.prog w = .ok (.int .u64 (k.k0 : Nat)) w := fun _ => by kernel_rfl
          obtain ⟨c0, c1, c2, c3, c4, c5, c6, c7, c8⟩ := HC.out.rc.nums
          obtain ⟨c9, c10, c11, c12⟩ := HC.out.rc.signs
          go_wp2_with fail
          clear hix c0 c1 c2 c3 c4 c5 c6 c7 c8 c9 c10 c11 c12
          refine (HS.out wr).mono ?_
          rintro e w4 ⟨rfl, hb4⟩
          have HC4 := Lib.hid (HC.out.later hb4)
          clear hb4
          obtain ⟨d9, d10, d11, d12⟩ := HC4.out.rc.signs
          have f9 := HC4.out.rc.frozen 9
          have HC5 := Lib.hid (HC4.out.set 9 (.int .u64 (G : Nat)) (RcB.setG0 HC4.out.rc G))
          go_wp2
          clear d9 d10 d11 d12 f9
          go_roundw
          case rel => exact ⟨1, by omega, rfl, by rw [HSG.out]; exact HC5.out⟩
          case measure => simp [intOf]
        · rw [show ((1 : Nat) : Int) = 1 from rfl]
          have HS := Lib.hid (fun w' => rSign_any (sgd r1 k 1) k.k1 k.h1 w')
          rw [sig_sgd] at HS
          have HSG := Lib.hid (sgd_2 r1 k)
          obtain ⟨R, hR⟩ : ∃ R, sgd r1 k 1 = R := ⟨_, rfl⟩
          obtain ⟨G, hG⟩ : ∃ G, sig r1 k.k1 = G := ⟨_, rfl⟩
          rw [hR] at HC HS HSG
          rw [hG] at HS HSG
          clear hR hG
          have hix : ∀ w, (Instr.index 60 (.agg #[.int .u64 (k.k0 : Nat), .int .u64 (k.k1 : Nat), .int .u64 (k.k2 : Nat), .int .u64 (k.k3 : Nat)]) (.int .i64 1)).run Tryz.prog w = .ok (.int .u64 (k.k1 : Nat)) w := fun _ => by kernel_rfl
          obtain ⟨c0, c1, c2, c3, c4, c5, c6, c7, c8⟩ := HC.out.rc.nums
          obtain ⟨c9, c10, c11, c12⟩ := HC.out.rc.signs
          go_wp2_with fail
          clear hix c0 c1 c2 c3 c4 c5 c6 c7 c8 c9 c10 c11 c12
          refine (HS.out wr).mono ?_
          rintro e w4 ⟨rfl, hb4⟩
          have HC4 := Lib.hid (HC.out.later hb4)
          clear hb4
          obtain ⟨d9, d10, d11, d12⟩ := HC4.out.rc.signs
          have f10 := HC4.out.rc.frozen 10
          have HC5 := Lib.hid (HC4.out.set 10 (.int .u64 (G : Nat)) (RcB.setG1 HC4.out.rc G))
          go_wp2
          clear d9 d10 d11 d12 f10
          go_roundw
          case rel => exact ⟨2, by omega, rfl, by rw [HSG.out]; exact HC5.out⟩
          case measure => simp [intOf]
        · rw [show ((2 : Nat) : Int) = 2 from rfl]
          have HS := Lib.hid (fun w' => rSign_any (sgd r1 k 2) k.k2 k.h2 w')
          rw [sig_sgd] at HS
          have HSG := Lib.hid (sgd_3 r1 k)
          obtain ⟨R, hR⟩ : ∃ R, sgd r1 k 2 = R := ⟨_, rfl⟩
          obtain ⟨G, hG⟩ : ∃ G, sig r1 k.k2 = G := ⟨_, rfl⟩
          rw [hR] at HC HS HSG
          rw [hG] at HS HSG
          clear hR hG
          have hix : ∀ w, (Instr.index 60 (.agg #[.int .u64 (k.k0 : Nat), .int .u64 (k.k1 : Nat), .int .u64 (k.k2 : Nat), .int .u64 (k.k3 : Nat)]) (.int .i64 2)).run Tryz.prog w = .ok (.int .u64 (k.k2 : Nat)) w := fun _ => by kernel_rfl
          obtain ⟨c0, c1, c2, c3, c4, c5, c6, c7, c8⟩ := HC.out.rc.nums
          obtain ⟨c9, c10, c11, c12⟩ := HC.out.rc.signs
          go_wp2_with fail
          clear hix c0 c1 c2 c3 c4 c5 c6 c7 c8 c9 c10 c11 c12
          refine (HS.out wr).mono ?_
          rintro e w4 ⟨rfl, hb4⟩
          have HC4 := Lib.hid (HC.out.later hb4)
          clear hb4
          obtain ⟨d9, d10, d11, d12⟩ := HC4.out.rc.signs
          have f11 := HC4.out.rc.frozen 11
          have HC5 := Lib.hid (HC4.out.set 11 (.int .u64 (G : Nat)) (RcB.setG2 HC4.out.rc G))
          go_wp2
          clear d9 d10 d11 d12 f11
          go_roundw
          case rel => exact ⟨3, by omega, rfl, by rw [HSG.out]; exact HC5.out⟩
          case measure => simp [intOf]
        · rw [show ((3 : Nat) : Int) = 3 from rfl]
          have HS := Lib.hid (fun w' => rSign_any (sgd r1 k 3) k.k3 k.h3 w')
          rw [sig_sgd] at HS
          have HSG := Lib.hid (sgd_4 r1 k)
          obtain ⟨R, hR⟩ : ∃ R, sgd r1 k 3 = R := ⟨_, rfl⟩
          obtain ⟨G, hG⟩ : ∃ G, sig r1 k.k3 = G := ⟨_, rfl⟩
          rw [hR] at HC HS HSG
          rw [hG] at HS HSG
          clear hR hG
          have hix : ∀ w, (Instr.index 60 (.agg #[.int .u64 (k.k0 : Nat), .int .u64 (k.k1 : Nat), .int .u64 (k.k2 : Nat), .int .u64 (k.k3 : Nat)]) (.int .i64 3)).run Tryz.prog w = .ok (.int .u64 (k.k3 : Nat)) w := fun _ => by kernel_rfl
          obtain ⟨c0, c1, c2, c3, c4, c5, c6, c7, c8⟩ := HC.out.rc.nums
          obtain ⟨c9, c10, c11, c12⟩ := HC.out.rc.signs
          go_wp2_with fail
          clear hix c0 c1 c2 c3 c4 c5 c6 c7 c8 c9 c10 c11 c12
          refine (HS.out wr).mono ?_
          rintro e w4 ⟨rfl, hb4⟩
          have HC4 := Lib.hid (HC.out.later hb4)
          clear hb4
          obtain ⟨d9, d10, d11, d12⟩ := HC4.out.rc.signs
          have f12 := HC4.out.rc.frozen 12
          have HC5 := Lib.hid (HC4.out.set 12 (.int .u64 (G : Nat)) (RcB.setG3 HC4.out.rc G))
          go_wp2
          clear d9 d10 d11 d12 f12
          go_roundw
          case rel => exact ⟨4, by omega, rfl, by rw [HSG.out]; exact HC5.out⟩
          case measure => simp [intOf]
        · rw [show ((4 : Nat) : Int) = 4 from rfl]
          obtain ⟨R, hR⟩ : ∃ R, sgd r1 k 4 = R := ⟨_, rfl⟩
          rw [hR] at HC HN
          clear hR
          obtain ⟨c0, c1, c2, c3, c4, c5, c6, c7, c8⟩ := HC.out.rc.nums
          obtain ⟨c9, c10, c11, c12⟩ := HC.out.rc.signs
          have oz := HC.out.out
          have o0 := oz.cell 0
          have o1 := oz.cell 1
          have o2 := oz.cell 2
          have o3 := oz.cell 3
          have o4 := oz.cell 4
          have o5 := oz.cell 5
          have o6 := oz.cell 6
          have o7 := oz.cell 7
          have o8 := oz.cell 8
          have o9 := oz.cell 9
          have o10 := oz.cell 10
          have o11 := oz.cell 11
          have o12 := oz.cell 12
          have f0 := oz.frozen 0
          have f1 := oz.frozen 1
          have f2 := oz.frozen 2
          have f3 := oz.frozen 3
          have f4 := oz.frozen 4
          have f5 := oz.frozen 5
          have f6 := oz.frozen 6
          have f7 := oz.frozen 7
          have f8 := oz.frozen 8
          have f9 := oz.frozen 9
          have f10 := oz.frozen 10
          have f11 := oz.frozen 11
          have f12 := oz.frozen 12
          clear oz
          simp [zeroRc] at o0 o1 o2 o3 o4 o5 o6 o7 o8 o9 o10 o11 o12
          go_wp2
          clear o0 o1 o2 o3 o4 o5 o6 o7 o8 o9 o10 o11 o12 f0 f1 f2 f3 f4 f5 f6 f7 f8 f9 f10 f11 f12 c0 c1 c2 c3 c4 c5 c6 c7 c8 c9 c10 c11 c12
          have HP := Lib.hid (HC.out.out.put R)
          have HBP := Lib.hid (below_putRc HC.out.bel (show w.heap.size ≤ w.heap.size + 1 + 1 by omega) R)
          change bodyPost _ _ _ _ _ (putRc wr (w.heap.size + 1 + 1) R)
          obtain ⟨W, hW⟩ : ∃ W, putRc wr (w.heap.size + 1 + 1) R = W := ⟨_, rfl⟩
          rw [hW] at HP HBP ⊢
          clear hW
          obtain ⟨c0, c1, c2, c3, c4, c5, c6, c7, c8⟩ := HP.out.nums
          obtain ⟨c9, c10, c11, c12⟩ := HP.out.signs
          exact bodyPost_ret (v := .tuple #[recV R, .int .i64 0]) (by simp [results, Tryz.results15, go_sem, c0, c1, c2, c3, c4, c5, c6, c7, c8, c9, c10, c11, c12]) rfl ⟨by rw [← HV.out, HN.out], HBP.out⟩
end
end Go.Proofs.YtkfmmiekajgdjaaGreat
