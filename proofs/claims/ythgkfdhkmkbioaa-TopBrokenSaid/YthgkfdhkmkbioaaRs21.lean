/- Rows of jobs of the call's own: some of the jobs, mapped jobs and numbers. -/
import Derived.Test.YthgkfdhkmkbioaaPe21
import Derived.Test.YthgkfdhkmkbioaaSo21
namespace Go.Proofs.Ythgkfdhkmkbioaa
open Go.RowKit Go.Shelf
attribute [local go_sem] Oper.semAt_some

theorem elemJ : ElemI Try.prog 22 27 5 40 := ElemI.of Try.underlying22 (by kernel_rfl) (by decide)
def flatJ (J : List Jb) : List Value := J.flatMap fun j => [.int .i64 j.f, .int .i64 j.t, .int .i64 j.e, .int .i64 j.r, .int .i64 j.k]
theorem flatJ_len : ∀ J : List Jb, (flatJ J).length = J.length * 5
  | [] => rfl
  | j :: J => by
    show (flatJ J).length + 5 = (J.length + 1) * 5
    rw [flatJ_len J]; omega
theorem flatJ_snoc (J : List Jb) (j : Jb) : flatJ (J ++ [j]) = flatJ J ++ [.int .i64 j.f, .int .i64 j.t, .int .i64 j.e, .int .i64 j.r, .int .i64 j.k] := by simp [flatJ]
theorem flatJ_append (A B : List Jb) : flatJ (A ++ B) = flatJ A ++ flatJ B := by simp [flatJ]
theorem flatJ_one (J : List Jb) : ∀ u ∈ flatJ J, u.oneCell' = true := fun u hu => by
  unfold flatJ at hu
  obtain ⟨j, _, hj⟩ := List.mem_flatMap.1 hu
  simp at hj
  rcases hj with rfl | rfl | rfl | rfl | rfl <;> rfl
theorem oneJ (j : Jb) : ∀ u ∈ [Value.int .i64 j.f, .int .i64 j.t, .int .i64 j.e, .int .i64 j.r, .int .i64 j.k], u.oneCell' = true := fun u hu => flatJ_one [j] u (by simpa [flatJ] using hu)
theorem flatJ_get : ∀ {J : List Jb} {i : Nat}, i < J.length → (flatJ J)[i * 5]? = some (.int .i64 (getJ J i).f) ∧ (flatJ J)[i * 5 + 1]? = some (.int .i64 (getJ J i).t) ∧ (flatJ J)[i * 5 + 2]? = some (.int .i64 (getJ J i).e) ∧ (flatJ J)[i * 5 + 3]? = some (.int .i64 (getJ J i).r) ∧ (flatJ J)[i * 5 + 4]? = some (.int .i64 (getJ J i).k)
  | [], _, h => absurd h (Nat.not_lt_zero _)
  | _ :: _, 0, _ => ⟨rfl, rfl, rfl, rfl, rfl⟩
  | x :: l, i + 1, h => by
    have := flatJ_get (J := l) (i := i) (by simpa using h)
    rw [show (i + 1) * 5 = i * 5 + 5 by omega]
    exact this
/-- A row of jobs reads as these jobs. -/
theorem row_jobs {w : World} {base n c : Nat} {o : Option Addr} {J : List Jb} (h : w.ownsRow base 27 5 (.slice o n c) n (flatJ J)) : JobsM w o J := fun i hi => by
  have hg := flatJ_get hi
  obtain ⟨g, rfl, _, c0⟩ := ownsRow_cellQ h hg.1
  obtain ⟨g1, e1, _, c1⟩ := ownsRow_cellQ h hg.2.1
  obtain ⟨g2, e2, _, c2⟩ := ownsRow_cellQ h hg.2.2.1
  obtain ⟨g3, e3, _, c3⟩ := ownsRow_cellQ h hg.2.2.2.1
  obtain ⟨g4, e4, _, c4⟩ := ownsRow_cellQ h hg.2.2.2.2
  cases e1
  cases e2
  cases e3
  cases e4
  exact ⟨g, 0, rfl, by rw [Nat.zero_add]; exact c0, by rw [Nat.zero_add]; exact c1, by rw [Nat.zero_add]; exact c2, by rw [Nat.zero_add]; exact c3, by rw [Nat.zero_add]; exact c4⟩
theorem row_ints {w : World} {base n c : Nat} {o : Option Addr} {l : List Int} (h : w.ownsRow base 3 1 (.slice o n c) n (intsV l)) : Ints w o l := fun i hi => by
  obtain ⟨g, rfl, _, c0⟩ := ownsRow_cellQ h (intsV_get hi)
  exact ⟨g, 0, rfl, by rw [Nat.zero_add]; exact c0⟩
/-- make([]T, 0, n). -/
theorem run_make0 {P : Program} (t e : TypeId) (z : Value) (size bytes : Nat) (ht : P.underlying t = some (.slice e)) (hinfo : (P.info? e).map (fun i => (i.zero, i.size, i.bytes)) = some (some z, size, bytes)) (n : Nat) (hbytes : bytes * n ≤ 281474976710656) (h63 : n ≤ 9223372036854775807) (w : World) :
    (Instr.makeSlice t (.int .i64 0) (.int .i64 (n : Int))).run P w = .ok (.slice (some ⟨w.heap.size, 0, none⟩) 0 n) (w.alloc (.cells (madeCells z.cells (n * size)) e)) := by
  obtain ⟨i, hi, hzz⟩ := Option.map_eq_some_iff.1 hinfo
  simp only [Prod.mk.injEq] at hzz
  obtain ⟨hz, hs, hb⟩ := hzz
  have hb' : (i.bytes : Int) * (n : Int) ≤ 281474976710656 := by
    rw [hb]
    have h : ((bytes * n : Nat) : Int) ≤ 281474976710656 := by omega
    rwa [Int.natCast_mul] at h
  have hr := run_make (P := P) w t e i z ht hi hz .i64 .i64 0 n (by omega) (by omega) hb' (by omega)
  rw [Int.toNat_natCast, hs] at hr
  exact hr
theorem made0_row {w : World} {e : TypeId} {z : Value} {n size : Nat} {base : Nat} (hb : base ≤ w.heap.size) (hn : n ≤ 1000000) (hs : (madeCells z.cells (n * size)).size = n * size) : (w.alloc (.cells (madeCells z.cells (n * size)) e)).ownsRow base e size (.slice (some ⟨w.heap.size, 0, none⟩) 0 n) 0 [] :=
  World.ownsRow_made w _ n hb (by simp only [maxLen]; omega) hs
/-- Some of the jobs. -/
def pickJ (J : List Jb) (l : List Nat) : List Jb := l.map (getJ J)
theorem pickJ_len (J : List Jb) (l : List Nat) : (pickJ J l).length = l.length := by simp [pickJ]
theorem pickJ_take {J : List Jb} {l : List Nat} {k : Nat} (h : k < l.length) : pickJ J (l.take (k + 1)) = pickJ J (l.take k) ++ [getJ J (l.getD k 0)] := by
  unfold pickJ
  rw [List.take_add_one, List.getElem?_eq_getElem h, List.map_append, List.getD_eq_getElem?_getD, List.getElem?_eq_getElem h]
  rfl
def RowJOut (J : List Jb) (w : World) (e : Ending) (w' : World) : Prop := Below w.heap.size w w' ∧ ∃ v, e = .returned v ∧ w'.ownsRow w.heap.size 27 5 v J.length (flatJ J)
set_option maxRecDepth 100000 in
set_option maxHeartbeats 4000000 in
theorem some_any (J : List Jb) (l : List Nat) (oj ol : Option Addr) (cj cl : Nat) (w : World) (hj : JobsM w oj J) (hl : Ints w ol (natI l)) (_hn : J.length ≤ 1000) (hll : l.length ≤ 1000) (hlt : ∀ x ∈ l, x < J.length) : Calls Try.prog 31 #[.slice oj J.length cj, .slice ol l.length cl] w (RowJOut (pickJ J l) w) := by
  have HJ := Lib.hid hj
  have HL := Lib.hid hl
  have HLT := Lib.hid (fun k (hk : k < l.length) => show l.getD k 0 < J.length from hlt _ (by rw [List.getD_eq_getElem?_getD, List.getElem?_eq_getElem hk]; exact List.getElem_mem hk))
  clear hj hl hlt
  have hmk := run_make0 (P := Try.prog) 22 27 (.agg #[.int .i64 0, .int .i64 0, .int .i64 0, .int .i64 0, .int .i64 0]) 5 40 Try.underlying22 (by kernel_rfl) l.length (by omega) (by omega)
  have HR0 := Lib.hid (made0_row (w := w) (e := 27) (z := .agg #[.int .i64 0, .int .i64 0, .int .i64 0, .int .i64 0, .int .i64 0]) (n := l.length) (size := 5) (base := w.heap.size) (Nat.le_refl _) (by omega) (size_madeCells _ _))
  obtain ⟨cs, hcs⟩ : ∃ c, madeCells (Value.agg #[.int .i64 0, .int .i64 0, .int .i64 0, .int .i64 0, .int .i64 0]).cells (l.length * 5) = c := ⟨_, rfl⟩
  rw [hcs] at hmk HR0
  clear hcs
  go_enter Try.func31, Try.ntmps31
  go_wp2_with fail
  clear hmk
  go_loopw [5, 13] (fun v i wr => ∃ k : Nat, k ≤ l.length ∧ i = .int .i64 k ∧ Below w.heap.size w wr ∧ wr.ownsRow w.heap.size 27 5 v (pickJ J (l.take k)).length (flatJ (pickJ J (l.take k)))) (fun _ i _ => l.length - (intOf i).toNat)
  case atStart => exact ⟨0, Nat.zero_le _, rfl, below_alloc (Below.refl _ _) _, HR0.out⟩
  case round =>
    obtain ⟨k, hk, rfl, hb, hrow⟩ := hrel
    obtain ⟨wA, rfl⟩ : ∃ wA : World, wA = wr := ⟨_, rfl⟩
    clear HR0
    have HB := Lib.hid hb
    have HR := Lib.hid hrow
    clear hb hrow
    by_cases hlt : k < l.length
    · obtain ⟨b2, off2, rfl, t0⟩ := (HL.out.later HB.out) k (by rw [natI_length]; exact hlt)
      rw [natI_get hlt] at t0
      have hxn := HLT.out k hlt
      obtain ⟨b, off, rfl, c0, c1, c2, c3, c4⟩ := (HJ.out.later HB.out) _ hxn
      have HPT := Lib.hid (pickJ_take (J := J) hlt)
      have hpl : (pickJ J (l.take k)).length ≤ 1000 := by rw [pickJ_len, List.length_take]; omega
      obtain ⟨x, hx⟩ : ∃ x, l.getD k 0 = x := ⟨_, rfl⟩
      rw [hx] at t0 hxn c0 c1 c2 c3 c4 HPT
      obtain ⟨j, hj⟩ : ∃ j, getJ J x = j := ⟨_, rfl⟩
      rw [hj] at c0 c1 c2 c3 c4 HPT
      clear hx hj
      have y1 : (0 : Int) ≤ (k : Int) := by omega
      have y2 : (k : Int) < (l.length : Int) := by omega
      have x1 : (0 : Int) ≤ (x : Int) := by omega
      have x2 : (x : Int) < (J.length : Int) := by omega
      have hsz := HB.out.size
      have HN1 := Lib.hid (show (pickJ J (l.take k)).length + 1 ≤ 1000000000 by omega)
      go_wp2_with (at_builtin; refine wp_append1O (news := [.int .i64 j.f, .int .i64 j.t, .int .i64 j.e, .int .i64 j.r, .int .i64 j.k]) elemJ HR.out hsz HN1.out (by decide) rfl (oneJ j) rfl _ _ rfl rfl rfl rfl ?_)
      intro v2 w4 hr2 hgr _
      have hba : Below wA.heap.size wA (wA.alloc (.cells (jobC j) 27)) := below_alloc (Below.refl _ _) _
      have HB4 := Lib.hid ((below_step HB.out hba).grown hgr (by rw [World.size_alloc]; omega) (fun b e => (HR.out.lt b e).1))
      have HR4 : Hid (w4.ownsRow w.heap.size 27 5 v2 (pickJ J (l.take (k + 1))).length (flatJ (pickJ J (l.take (k + 1))))) := Lib.hid (by
        rw [HPT.out, List.length_append]
        exact ownsRow_cast hr2 rfl (flatJ_snoc _ _).symm)
      clear hr2 hgr hba
      go_wp2
      go_round
      case rel => exact ⟨k + 1, hlt, by go_num, HB4.out, HR4.out⟩
      case measure => exact meas_lt hlt
    · obtain rfl : k = l.length := by omega
      rw [List.take_length] at HR
      go_wp2
      go_ret
      exact ⟨HB.out, _, rfl, HR.out⟩
end Go.Proofs.Ythgkfdhkmkbioaa
