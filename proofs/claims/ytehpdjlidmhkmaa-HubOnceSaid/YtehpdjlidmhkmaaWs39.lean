/- Chapter 39: from7, head. -/
import Derived.Test.YtehpdjlidmhkmaaWq39
import Derived.Test.YtehpdjlidmhkmaaWn39
namespace Go.Proofs.Ytehpdjlidmhkmaa
open Go.RowKit
attribute [local go_sem] Oper.semAt_some

def RecvAt (L : List Bx) (M : List Msg) (nL nM : Nat) (E : Int) (w : World) (e : Ending) (w' : World) : Prop :=
  Below w.heap.size w w' ∧ ∃ (o o2 : Option Addr) (cap cap2 : Nat), e = .returned (.tuple #[.slice o nL cap, .slice o2 nM cap2, .int .i64 E]) ∧ Bxs w' o L ∧ Msgs w' o2 M
theorem recv_at (o : Option Addr) (cap n : Nat) (l : List Bx) (m : Msg) (w : World) (hr : Bxs w o l) (hl : l.length ≤ 1000000000000000) (hn : n = l.length) {L : List Bx} {M : List Msg} {nL nM : Nat} {E : Int} (hE : recvE l m = E) (hL : outL l m = L) (hM : outM l m = M) (h1 : L.length = nL) (h2 : M.length = nM) : Calls Try.prog 12 #[.slice o n cap, msgV m] w (RecvAt L M nL nM E w) := by
  subst hn
  subst hL
  subst hM
  subst hE
  subst h1
  subst h2
  exact Receive_any o cap l m w hr hl

theorem out_ok {l : List Bx} {m : Msg} {L : List Bx} {M : List Msg} (hE : recvE l m = 0) (h1 : put l (nb (ofF l m.f) m) = L) (h2 : ov (ofF l m.f) m = M) : outL l m = L ∧ outM l m = M := by
  have ht := took hE
  unfold outL outM
  rw [if_pos hE, if_pos hE, ht.inboxes, ht.over]
  exact ⟨h1, h2⟩
theorem out_err {l : List Bx} {m : Msg} {E : Int} (hE : recvE l m = E) (h0 : ¬ E = 0) : outL l m = [] ∧ outM l m = [] := by
  unfold outL outM
  rw [hE, if_neg h0, if_neg h0]
  exact ⟨rfl, rfl⟩

def q1 : Msg := ⟨7, 1, 10⟩
def q2 : Msg := ⟨7, 2, 20⟩
def q3 : Msg := ⟨7, 3, 30⟩
def q9 : Msg := ⟨7, 9, 90⟩
def lA : List Bx := [⟨7, 2, []⟩]
def lB : List Bx := [⟨7, 2, [q3]⟩]
def lC : List Bx := [⟨7, 4, []⟩]
def lD : List Bx := [⟨7, 4, [q9]⟩]
theorem e1 : recvE [] q1 = 0 := by rw [recvE_eq (by decide) (by decide)]; decide
theorem e2 : recvE lA q3 = 0 := by rw [recvE_eq (by decide) (by decide)]; decide
theorem e3 : recvE lB q2 = 0 := by rw [recvE_eq (by decide) (by decide)]; decide
theorem e4 : recvE lC q2 = 12 := by rw [recvE_eq (by decide) (by decide)]; decide
theorem e5 : recvE lB q3 = 12 := by rw [recvE_eq (by decide) (by decide)]; decide
theorem e6 : recvE lC q9 = 0 := by rw [recvE_eq (by decide) (by decide)]; decide
theorem e7 : recvE [] Msg.zero = 1 := recvE_arg (by decide)
theorem r1 : outL [] q1 = lA ∧ outM [] q1 = [q1] := out_ok e1 (by decide) (by decide)
theorem r2 : outL lA q3 = lB ∧ outM lA q3 = [] := out_ok e2 (by decide) (by decide)
theorem r3 : outL lB q2 = lC ∧ outM lB q2 = [q2, q3] := out_ok e3 (by decide) (by decide)
theorem r4 : outL lC q2 = [] ∧ outM lC q2 = [] := out_err e4 (by decide)
theorem r5 : outL lB q3 = [] ∧ outM lB q3 = [] := out_err e5 (by decide)
theorem r6 : outL lC q9 = lD ∧ outM lC q9 = [] := out_ok e6 (by decide) (by decide)
theorem r7 : outL [] Msg.zero = [] ∧ outM [] Msg.zero = [] := out_err e7 (by decide)
theorem mD : missL lD 7 = [4, 5, 6, 7, 8] := by rw [missL_yes (by decide) (by decide)]; decide
theorem vD : validL lD = true := by decide
theorem vZ : validL [Bx.zero] = false := by decide

set_option maxHeartbeats 1000000 in
theorem from7_any (k : Int) (w : World) (hk : 0 ≤ k ∧ k ≤ 1000) : Calls Try.prog 24 #[.int .i64 k] w (Ret (msgV ⟨7, k, 10 * k⟩) w) := by
  go_enter Try.func24, Try.ntmps24
  go_wp2
  exact bodyPost_ret (v := msgV ⟨7, k, 10 * k⟩) (by simp [results, Try.results24, go_sem]) rfl ⟨rfl, by go_grown⟩

theorem lit_msgs (w : World) (t : TypeId) (l : List Msg) : Msgs (w.alloc (.cells (flatM l).toArray t)) (some ⟨w.heap.size, 0, none⟩) l := Cells.msgs (fun j u hj => ⟨w.heap.size, 0, rfl, by
  have := (Blk.new w t (flatM l).toArray).cell j
  rw [Nat.zero_add]
  exact this.trans (by simpa using hj)⟩)
theorem lit_bxs (w : World) (t : TypeId) (l : List BxA) (hg : Good w l) : Bxs (w.alloc (.cells (flatB l).toArray t)) (some ⟨w.heap.size, 0, none⟩) (bxs l) := Cells.bxs (fun j u hj => ⟨w.heap.size, 0, rfl, by
  have := (Blk.new w t (flatB l).toArray).cell j
  rw [Nat.zero_add]
  exact this.trans (by simpa using hj)⟩) (hg.later (below_alloc (Below.refl _ _) _))
theorem lit_ints (w : World) (t : TypeId) (l : List Int) : Ints (w.alloc (.cells (l.map (Value.int .i64 ·)).toArray t)) (some ⟨w.heap.size, 0, none⟩) l := fun i hi => ⟨w.heap.size, 0, rfl, by
  have := (Blk.new w t (l.map (Value.int .i64 ·)).toArray).cell i
  rw [Nat.zero_add]
  exact this.trans (by simp [hi])⟩

theorem sameM_at (oa ob : Option Addr) (ca cb na nb : Nat) (l : List Msg) (w : World) (ha : Msgs w oa l) (hb : Msgs w ob l) (hl : l.length ≤ 9223372036854775807) (h1 : na = l.length) (h2 : nb = l.length) : Calls Try.prog 15 #[.slice oa na ca, .slice ob nb cb] w (Ret (.bool true) w) := by
  subst h1
  subst h2
  have := sameM_any oa ob ca cb l l w ha hb hl
  rwa [decide_eq_true rfl] at this
theorem sameB_at (oa ob : Option Addr) (ca cb na nb : Nat) (l : List Bx) (w : World) (ha : Bxs w oa l) (hb : Bxs w ob l) (hl : l.length ≤ 9223372036854775807) (h1 : na = l.length) (h2 : nb = l.length) : Calls Try.prog 14 #[.slice oa na ca, .slice ob nb cb] w (Ret (.bool true) w) := by
  subst h1
  subst h2
  have := sameB_any oa ob ca cb l l w ha hb hl
  rwa [decide_eq_true rfl] at this
theorem ints_at (oa ob : Option Addr) (ca cb na nb : Nat) (l : List Int) (w : World) (ha : Ints w oa l) (hb : Ints w ob l) (hl : l.length ≤ 9223372036854775807) (h1 : na = l.length) (h2 : nb = l.length) : Calls Try.prog 16 #[.slice oa na ca, .slice ob nb cb] w (Ret (.bool true) w) := by
  subst h1
  subst h2
  have := refInts_any oa ob ca cb l l w ha hb hl
  rwa [decide_eq_true rfl] at this
theorem valid_at (o : Option Addr) (cap n : Nat) (l : List Bx) (w : World) (hr : Bxs w o l) (hl : l.length ≤ 9000000000000000000) (hn : n = l.length) {V : Bool} (hV : validL l = V) : Calls Try.prog 19 #[.slice o n cap] w (Ret (.bool V) w) := by
  subst hn
  subst hV
  exact Valid_any o cap l w hr hl
def MissAt (l : List Int) (n : Nat) (w : World) (e : Ending) (w' : World) : Prop := Below w.heap.size w w' ∧ ∃ (o : Option Addr) (cap : Nat), e = .returned (.slice o n cap) ∧ Ints w' o l
theorem missing_at (o : Option Addr) (cap n : Nat) (l : List Bx) (f : Int) (w : World) (hr : Bxs w o l) (hl : l.length ≤ 1000000000000000) (hn : n = l.length) {G : List Int} {nG : Nat} (hG : missL l f = G) (h1 : G.length = nG) : Calls Try.prog 17 #[.slice o n cap, .int .i64 f] w (MissAt G nG w) := by
  subst hn
  subst hG
  subst h1
  exact Missing_any o cap l f w hr hl

set_option maxRecDepth 100000 in
set_option maxHeartbeats 16000000 in
theorem head_any (w : World) : Calls Try.prog 10 #[] w (Ret (.bool true) w) := by
  go_enter Try.func10, Try.ntmps10
  go_wp2_with fail
  refine (from7_any 1 _ (by decide)).mono ?_
  rintro e x1 ⟨rfl, hb⟩
  have HW := Lib.hid hb
  clear hb
  go_wp2_with fail
  refine (recv_at none 0 0 [] q1 _ Bxs.nil (by decide) rfl e1 r1.1 r1.2 (nL := 1) (nM := 1) rfl rfl).mono ?_
  rintro e x2 ⟨hb, oA, oa, cA, ca, rfl, hx, hy⟩
  replace HW := Lib.hid (below_step HW.out hb)
  clear hb
  have HA := Lib.hid hx
  have Ha := Lib.hid hy
  clear hx hy
  go_wp2_with fail
  refine (from7_any 3 _ (by decide)).mono ?_
  rintro e x3 ⟨rfl, hb⟩
  replace HW := Lib.hid (below_step HW.out hb)
  replace HA := Lib.hid (HA.out.later hb)
  replace Ha := Lib.hid (Ha.out.later hb)
  clear hb
  go_wp2_with fail
  refine (recv_at oA cA 1 lA q3 _ HA.out (by decide) rfl e2 r2.1 r2.2 (nL := 1) (nM := 0) rfl rfl).mono ?_
  rintro e x4 ⟨hb, oB, ob, cB, cb, rfl, hx, hy⟩
  replace HW := Lib.hid (below_step HW.out hb)
  replace HA := Lib.hid (HA.out.later hb)
  replace Ha := Lib.hid (Ha.out.later hb)
  clear hb
  have HB := Lib.hid hx
  have Hb := Lib.hid hy
  clear hx hy
  go_wp2_with fail
  refine (from7_any 2 _ (by decide)).mono ?_
  rintro e x5 ⟨rfl, hb⟩
  replace HW := Lib.hid (below_step HW.out hb)
  replace HA := Lib.hid (HA.out.later hb)
  replace Ha := Lib.hid (Ha.out.later hb)
  replace HB := Lib.hid (HB.out.later hb)
  replace Hb := Lib.hid (Hb.out.later hb)
  clear hb
  go_wp2_with fail
  refine (recv_at oB cB 1 lB q2 _ HB.out (by decide) rfl e3 r3.1 r3.2 (nL := 1) (nM := 2) rfl rfl).mono ?_
  rintro e x6 ⟨hb, oC, occ, cC, ccc, rfl, hx, hy⟩
  replace HW := Lib.hid (below_step HW.out hb)
  replace HA := Lib.hid (HA.out.later hb)
  replace Ha := Lib.hid (Ha.out.later hb)
  replace HB := Lib.hid (HB.out.later hb)
  replace Hb := Lib.hid (Hb.out.later hb)
  clear hb
  have HC := Lib.hid hx
  have Hcc := Lib.hid hy
  clear hx hy
  go_wp2_with fail
  refine (from7_any 2 _ (by decide)).mono ?_
  rintro e x7 ⟨rfl, hb⟩
  replace HW := Lib.hid (below_step HW.out hb)
  replace HA := Lib.hid (HA.out.later hb)
  replace Ha := Lib.hid (Ha.out.later hb)
  replace HB := Lib.hid (HB.out.later hb)
  replace Hb := Lib.hid (Hb.out.later hb)
  replace HC := Lib.hid (HC.out.later hb)
  replace Hcc := Lib.hid (Hcc.out.later hb)
  clear hb
  go_wp2_with fail
  refine (recv_at oC cC 1 lC q2 _ HC.out (by decide) rfl e4 r4.1 r4.2 (nL := 0) (nM := 0) rfl rfl).mono ?_
  rintro e x8 ⟨hb, oX1, oy1, cX1, cy1, rfl, hx, hy⟩
  replace HW := Lib.hid (below_step HW.out hb)
  replace HA := Lib.hid (HA.out.later hb)
  replace Ha := Lib.hid (Ha.out.later hb)
  replace HB := Lib.hid (HB.out.later hb)
  replace Hb := Lib.hid (Hb.out.later hb)
  replace HC := Lib.hid (HC.out.later hb)
  replace Hcc := Lib.hid (Hcc.out.later hb)
  clear hb
  have HX1 := Lib.hid hx
  have Hy1 := Lib.hid hy
  clear hx hy
  go_wp2_with fail
  refine (from7_any 3 _ (by decide)).mono ?_
  rintro e x9 ⟨rfl, hb⟩
  replace HW := Lib.hid (below_step HW.out hb)
  replace HA := Lib.hid (HA.out.later hb)
  replace Ha := Lib.hid (Ha.out.later hb)
  replace HB := Lib.hid (HB.out.later hb)
  replace Hb := Lib.hid (Hb.out.later hb)
  replace HC := Lib.hid (HC.out.later hb)
  replace Hcc := Lib.hid (Hcc.out.later hb)
  replace HX1 := Lib.hid (HX1.out.later hb)
  replace Hy1 := Lib.hid (Hy1.out.later hb)
  clear hb
  go_wp2_with fail
  refine (recv_at oB cB 1 lB q3 _ HB.out (by decide) rfl e5 r5.1 r5.2 (nL := 0) (nM := 0) rfl rfl).mono ?_
  rintro e x10 ⟨hb, oX2, oy2, cX2, cy2, rfl, hx, hy⟩
  replace HW := Lib.hid (below_step HW.out hb)
  replace HA := Lib.hid (HA.out.later hb)
  replace Ha := Lib.hid (Ha.out.later hb)
  replace HB := Lib.hid (HB.out.later hb)
  replace Hb := Lib.hid (Hb.out.later hb)
  replace HC := Lib.hid (HC.out.later hb)
  replace Hcc := Lib.hid (Hcc.out.later hb)
  replace HX1 := Lib.hid (HX1.out.later hb)
  replace Hy1 := Lib.hid (Hy1.out.later hb)
  clear hb
  have HX2 := Lib.hid hx
  have Hy2 := Lib.hid hy
  clear hx hy
  go_wp2_with fail
  refine (from7_any 9 _ (by decide)).mono ?_
  rintro e x11 ⟨rfl, hb⟩
  replace HW := Lib.hid (below_step HW.out hb)
  replace HA := Lib.hid (HA.out.later hb)
  replace Ha := Lib.hid (Ha.out.later hb)
  replace HB := Lib.hid (HB.out.later hb)
  replace Hb := Lib.hid (Hb.out.later hb)
  replace HC := Lib.hid (HC.out.later hb)
  replace Hcc := Lib.hid (Hcc.out.later hb)
  replace HX1 := Lib.hid (HX1.out.later hb)
  replace Hy1 := Lib.hid (Hy1.out.later hb)
  replace HX2 := Lib.hid (HX2.out.later hb)
  replace Hy2 := Lib.hid (Hy2.out.later hb)
  clear hb
  go_wp2_with fail
  refine (recv_at oC cC 1 lC q9 _ HC.out (by decide) rfl e6 r6.1 r6.2 (nL := 1) (nM := 0) rfl rfl).mono ?_
  rintro e x12 ⟨hb, oD, od, cD, cd, rfl, hx, hy⟩
  replace HW := Lib.hid (below_step HW.out hb)
  replace HA := Lib.hid (HA.out.later hb)
  replace Ha := Lib.hid (Ha.out.later hb)
  replace HB := Lib.hid (HB.out.later hb)
  replace Hb := Lib.hid (Hb.out.later hb)
  replace HC := Lib.hid (HC.out.later hb)
  replace Hcc := Lib.hid (Hcc.out.later hb)
  replace HX1 := Lib.hid (HX1.out.later hb)
  replace Hy1 := Lib.hid (Hy1.out.later hb)
  replace HX2 := Lib.hid (HX2.out.later hb)
  replace Hy2 := Lib.hid (Hy2.out.later hb)
  clear hb
  have HD := Lib.hid hx
  have Hd := Lib.hid hy
  clear hx hy
  go_wp2_with fail
  refine (recv_at none 0 0 [] Msg.zero _ Bxs.nil (by decide) rfl e7 r7.1 r7.2 (nL := 0) (nM := 0) rfl rfl).mono ?_
  rintro e x13 ⟨hb, oX3, oy3, cX3, cy3, rfl, hx, hy⟩
  replace HW := Lib.hid (below_step HW.out hb)
  replace HA := Lib.hid (HA.out.later hb)
  replace Ha := Lib.hid (Ha.out.later hb)
  replace HB := Lib.hid (HB.out.later hb)
  replace Hb := Lib.hid (Hb.out.later hb)
  replace HC := Lib.hid (HC.out.later hb)
  replace Hcc := Lib.hid (Hcc.out.later hb)
  replace HX1 := Lib.hid (HX1.out.later hb)
  replace Hy1 := Lib.hid (Hy1.out.later hb)
  replace HX2 := Lib.hid (HX2.out.later hb)
  replace Hy2 := Lib.hid (Hy2.out.later hb)
  replace HD := Lib.hid (HD.out.later hb)
  replace Hd := Lib.hid (Hd.out.later hb)
  clear hb
  clear hx hy
  go_wp2_with fail
  refine (from7_any 1 _ (by decide)).mono ?_
  rintro e x14 ⟨rfl, hb⟩
  replace HW := Lib.hid (below_step HW.out hb)
  replace HA := Lib.hid (HA.out.later hb)
  replace Ha := Lib.hid (Ha.out.later hb)
  replace HB := Lib.hid (HB.out.later hb)
  replace Hb := Lib.hid (Hb.out.later hb)
  replace HC := Lib.hid (HC.out.later hb)
  replace Hcc := Lib.hid (Hcc.out.later hb)
  replace HX1 := Lib.hid (HX1.out.later hb)
  replace Hy1 := Lib.hid (Hy1.out.later hb)
  replace HX2 := Lib.hid (HX2.out.later hb)
  replace Hy2 := Lib.hid (Hy2.out.later hb)
  replace HD := Lib.hid (HD.out.later hb)
  replace Hd := Lib.hid (Hd.out.later hb)
  clear hb
  clear Hy1 HX1 Hy2 HX2 HA
  have HALL := Lib.hid (below_alloc (Below.refl x14.heap.size x14) (.cells #[.int .i64 7, .int .i64 1, .int .i64 10] 24))
  have HL1 := Lib.hid (show Msgs (x14.alloc (.cells #[.int .i64 7, .int .i64 1, .int .i64 10] 24)) (some ⟨x14.heap.size, 0, none⟩) [q1] from lit_msgs x14 24 [q1])
  replace HW := Lib.hid (below_step HW.out HALL.out)
  replace Ha := Lib.hid (Ha.out.later HALL.out)
  replace HB := Lib.hid (HB.out.later HALL.out)
  replace Hb := Lib.hid (Hb.out.later HALL.out)
  replace HC := Lib.hid (HC.out.later HALL.out)
  replace Hcc := Lib.hid (Hcc.out.later HALL.out)
  replace HD := Lib.hid (HD.out.later HALL.out)
  replace Hd := Lib.hid (Hd.out.later HALL.out)
  clear HALL
  go_wp2_with fail
  refine (sameM_at oa (some ⟨x14.heap.size, 0, none⟩) ca 1 1 1 [q1] _ Ha.out HL1.out (by decide) rfl rfl).mono ?_
  rintro e x15 ⟨rfl, hb⟩
  replace HW := Lib.hid (below_step HW.out hb)
  replace Ha := Lib.hid (Ha.out.later hb)
  replace HB := Lib.hid (HB.out.later hb)
  replace Hb := Lib.hid (Hb.out.later hb)
  replace HC := Lib.hid (HC.out.later hb)
  replace Hcc := Lib.hid (Hcc.out.later hb)
  replace HD := Lib.hid (HD.out.later hb)
  replace Hd := Lib.hid (Hd.out.later hb)
  replace HL1 := Lib.hid (HL1.out.later hb)
  clear hb
  clear HL1 Ha
  go_wp2_with fail
  refine (from7_any 2 _ (by decide)).mono ?_
  rintro e x16 ⟨rfl, hb⟩
  replace HW := Lib.hid (below_step HW.out hb)
  replace HB := Lib.hid (HB.out.later hb)
  replace Hb := Lib.hid (Hb.out.later hb)
  replace HC := Lib.hid (HC.out.later hb)
  replace Hcc := Lib.hid (Hcc.out.later hb)
  replace HD := Lib.hid (HD.out.later hb)
  replace Hd := Lib.hid (Hd.out.later hb)
  clear hb
  go_wp2_with fail
  refine (from7_any 3 _ (by decide)).mono ?_
  rintro e x17 ⟨rfl, hb⟩
  replace HW := Lib.hid (below_step HW.out hb)
  replace HB := Lib.hid (HB.out.later hb)
  replace Hb := Lib.hid (Hb.out.later hb)
  replace HC := Lib.hid (HC.out.later hb)
  replace Hcc := Lib.hid (Hcc.out.later hb)
  replace HD := Lib.hid (HD.out.later hb)
  replace Hd := Lib.hid (Hd.out.later hb)
  clear hb
  have HALL := Lib.hid (below_alloc (Below.refl x17.heap.size x17) (.cells #[.int .i64 7, .int .i64 2, .int .i64 20, .int .i64 7, .int .i64 3, .int .i64 30] 24))
  have HL2 := Lib.hid (show Msgs (x17.alloc (.cells #[.int .i64 7, .int .i64 2, .int .i64 20, .int .i64 7, .int .i64 3, .int .i64 30] 24)) (some ⟨x17.heap.size, 0, none⟩) [q2, q3] from lit_msgs x17 24 [q2, q3])
  replace HW := Lib.hid (below_step HW.out HALL.out)
  replace HB := Lib.hid (HB.out.later HALL.out)
  replace Hb := Lib.hid (Hb.out.later HALL.out)
  replace HC := Lib.hid (HC.out.later HALL.out)
  replace Hcc := Lib.hid (Hcc.out.later HALL.out)
  replace HD := Lib.hid (HD.out.later HALL.out)
  replace Hd := Lib.hid (Hd.out.later HALL.out)
  clear HALL
  go_wp2_with fail
  refine (sameM_at occ (some ⟨x17.heap.size, 0, none⟩) ccc 2 2 2 [q2, q3] _ Hcc.out HL2.out (by decide) rfl rfl).mono ?_
  rintro e x18 ⟨rfl, hb⟩
  replace HW := Lib.hid (below_step HW.out hb)
  replace HB := Lib.hid (HB.out.later hb)
  replace Hb := Lib.hid (Hb.out.later hb)
  replace HC := Lib.hid (HC.out.later hb)
  replace Hcc := Lib.hid (Hcc.out.later hb)
  replace HD := Lib.hid (HD.out.later hb)
  replace Hd := Lib.hid (Hd.out.later hb)
  replace HL2 := Lib.hid (HL2.out.later hb)
  clear hb
  clear HL2 Hcc
  have HALL := Lib.hid (below_alloc (Below.refl x18.heap.size x18) (.cells #[.int .i64 7, .int .i64 4, .slice none 0 0] 42))
  have HL3 := Lib.hid (show Bxs (x18.alloc (.cells #[.int .i64 7, .int .i64 4, .slice none 0 0] 42)) (some ⟨x18.heap.size, 0, none⟩) lC from lit_bxs x18 42 [⟨⟨7, 4, []⟩, none, 0⟩] (Good.one ⟨Msgs.nil, by simp, by simp⟩))
  replace HW := Lib.hid (below_step HW.out HALL.out)
  replace HB := Lib.hid (HB.out.later HALL.out)
  replace Hb := Lib.hid (Hb.out.later HALL.out)
  replace HC := Lib.hid (HC.out.later HALL.out)
  replace HD := Lib.hid (HD.out.later HALL.out)
  replace Hd := Lib.hid (Hd.out.later HALL.out)
  clear HALL
  go_wp2_with fail
  refine (sameB_at oC (some ⟨x18.heap.size, 0, none⟩) cC 1 1 1 lC _ HC.out HL3.out (by decide) rfl rfl).mono ?_
  rintro e x19 ⟨rfl, hb⟩
  replace HW := Lib.hid (below_step HW.out hb)
  replace HB := Lib.hid (HB.out.later hb)
  replace Hb := Lib.hid (Hb.out.later hb)
  replace HC := Lib.hid (HC.out.later hb)
  replace HD := Lib.hid (HD.out.later hb)
  replace Hd := Lib.hid (Hd.out.later hb)
  replace HL3 := Lib.hid (HL3.out.later hb)
  clear hb
  clear HL3 HC HB
  go_wp2_with fail
  refine (missing_at oD cD 1 lD 7 _ HD.out (by decide) rfl mD (nG := 5) rfl).mono ?_
  rintro e x20 ⟨hb, og, cg, rfl, hx⟩
  replace HW := Lib.hid (below_step HW.out hb)
  replace Hb := Lib.hid (Hb.out.later hb)
  replace HD := Lib.hid (HD.out.later hb)
  replace Hd := Lib.hid (Hd.out.later hb)
  clear hb
  have HG := Lib.hid hx
  clear hx
  have HALL := Lib.hid (below_alloc (Below.refl x20.heap.size x20) (.cells #[.int .i64 4, .int .i64 5, .int .i64 6, .int .i64 7, .int .i64 8] 3))
  have HL4 := Lib.hid (show Ints (x20.alloc (.cells #[.int .i64 4, .int .i64 5, .int .i64 6, .int .i64 7, .int .i64 8] 3)) (some ⟨x20.heap.size, 0, none⟩) [4, 5, 6, 7, 8] from lit_ints x20 3 [4, 5, 6, 7, 8])
  replace HW := Lib.hid (below_step HW.out HALL.out)
  replace Hb := Lib.hid (Hb.out.later HALL.out)
  replace HD := Lib.hid (HD.out.later HALL.out)
  replace Hd := Lib.hid (Hd.out.later HALL.out)
  replace HG := Lib.hid (HG.out.later HALL.out)
  clear HALL
  go_wp2_with fail
  refine (ints_at og (some ⟨x20.heap.size, 0, none⟩) cg 5 5 5 [4, 5, 6, 7, 8] _ HG.out HL4.out (by decide) rfl rfl).mono ?_
  rintro e x21 ⟨rfl, hb⟩
  replace HW := Lib.hid (below_step HW.out hb)
  replace Hb := Lib.hid (Hb.out.later hb)
  replace HD := Lib.hid (HD.out.later hb)
  replace Hd := Lib.hid (Hd.out.later hb)
  replace HG := Lib.hid (HG.out.later hb)
  replace HL4 := Lib.hid (HL4.out.later hb)
  clear hb
  clear HL4 HG
  go_wp2_with fail
  refine (valid_at oD cD 1 lD _ HD.out (by decide) rfl vD).mono ?_
  rintro e x22 ⟨rfl, hb⟩
  replace HW := Lib.hid (below_step HW.out hb)
  replace Hb := Lib.hid (Hb.out.later hb)
  replace HD := Lib.hid (HD.out.later hb)
  replace Hd := Lib.hid (Hd.out.later hb)
  clear hb
  clear HD
  have HALL := Lib.hid (below_alloc (Below.refl x22.heap.size x22) (.cells #[.int .i64 0, .int .i64 0, .slice none 0 0] 42))
  have HL5 := Lib.hid (show Bxs (x22.alloc (.cells #[.int .i64 0, .int .i64 0, .slice none 0 0] 42)) (some ⟨x22.heap.size, 0, none⟩) [Bx.zero] from lit_bxs x22 42 [⟨Bx.zero, none, 0⟩] (Good.one ⟨Msgs.nil, by simp [Bx.zero], by simp [Bx.zero]⟩))
  replace HW := Lib.hid (below_step HW.out HALL.out)
  replace Hb := Lib.hid (Hb.out.later HALL.out)
  replace Hd := Lib.hid (Hd.out.later HALL.out)
  clear HALL
  go_wp2_with fail
  refine (valid_at (some ⟨x22.heap.size, 0, none⟩) 1 1 [Bx.zero] _ HL5.out (by decide) rfl vZ).mono ?_
  rintro e x23 ⟨rfl, hb⟩
  replace HW := Lib.hid (below_step HW.out hb)
  replace Hb := Lib.hid (Hb.out.later hb)
  replace Hd := Lib.hid (Hd.out.later hb)
  replace HL5 := Lib.hid (HL5.out.later hb)
  clear hb
  go_wp2
  go_ret
  exact ⟨rfl, HW.out⟩
end Go.Proofs.Ytehpdjlidmhkmaa
