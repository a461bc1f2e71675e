/- Chapter 40: ChainMatchesReference. -/
import Derived.Test.YtckbooccgdddbaaWr40
namespace Go.Proofs.Ytckbooccgdddbaa
open Go.RowKit
attribute [local go_sem] Oper.semAt_some

/-- What both forms of Append hand back: the same list, however it lies. -/
theorem appOut_list {seed : Nat} {l : List Rd} {s m r : Int} {hs : seed < 18446744073709551616} {w w' : World} {e : Ending} (h : AppOut seed l s m r hs w e w') :
    Below w.heap.size w w' ∧ ∃ o cap, e = .returned (.tuple #[.slice o (if apErr seed l s m r = 0 then l ++ [apRd seed l s m r hs] else []).length cap, .int .i64 (apErr seed l s m r)]) ∧ Rds w' o (if apErr seed l s m r = 0 then l ++ [apRd seed l s m r hs] else []) := by
  refine ⟨h.1, ?_⟩
  rcases h.2 with ⟨hne, rfl⟩ | ⟨he, b, cap, _, _, rfl, hr⟩
  · rw [if_neg hne]
    exact ⟨none, 0, rfl, Rds.nil⟩
  · rw [if_pos he, he]
    exact ⟨_, cap, by rw [List.length_append]; rfl, hr⟩

set_option maxRecDepth 100000 in
set_option maxHeartbeats 4000000 in
theorem chainMatches_any (seed : Nat) (o : Option Addr) (cap : Nat) (l : List Rd) (x : Rd) (s m r fi la : Int) (w : World) (hs : seed < 18446744073709551616) (hr : Rds w o l) (hl : l.length ≤ 9223372036854775807) :
    Calls Try.prog 3 #[.int .u64 (seed : Nat), .slice o l.length cap, rdV x, .int .i64 s, .int .i64 m, .int .i64 r, .int .i64 fi, .int .i64 la] w (Ret (.bool true) w) := by
  have HR := Lib.hid hr
  clear hr
  go_enter Try.func3, Try.ntmps3
  go_wp2_with fail
  refine (head_any _).mono ?_
  rintro e w1 ⟨rfl, hb1⟩
  have HX1 := Lib.hid ((RdB.new w x).later hb1)
  have HB1 := Lib.hid (below_step (below_alloc0 _ _) hb1)
  clear hb1
  by_cases h100 : 100 < l.length
  · go_wp2_with fail
    go_ret
    exact ⟨rfl, HB1.out⟩
  go_wp2_with fail
  refine (Append_any seed o cap l s m r w1 hs (HR.out.later HB1.out) hl).mono ?_
  intro e w2 h
  obtain ⟨hb2, oa, ca, rfl, hra⟩ := appOut_list h
  have HB2 := Lib.hid (below_step HB1.out hb2)
  have HX2 := Lib.hid (HX1.out.later hb2)
  have HRA := Lib.hid hra
  have HLL := Lib.hid (show (if apErr seed l s m r = 0 then l ++ [apRd seed l s m r hs] else []).length ≤ 9223372036854775807 by split <;> simp; omega)
  clear hra hb2 h
  have HRF := Lib.hid (fun W (h : Rds W o l) => (refAppend_any seed o cap l s m r W hs h hl).mono (fun _ _ => appOut_list))
  obtain ⟨A, hA⟩ : ∃ A, (if apErr seed l s m r = 0 then l ++ [apRd seed l s m r hs] else []) = A := ⟨_, rfl⟩
  obtain ⟨E, hE⟩ : ∃ E, apErr seed l s m r = E := ⟨_, rfl⟩
  rw [hA] at HRA HRF HLL ⊢
  rw [hE] at HRF ⊢
  clear hA hE
  go_wp2_with fail
  refine (HRF.out w2 (HR.out.later HB2.out)).mono ?_
  rintro e w3 ⟨hb3, ob, cb, rfl, hrb⟩
  have HB3 := Lib.hid (below_step HB2.out hb3)
  have HX3 := Lib.hid (HX2.out.later hb3)
  have HRA3 := Lib.hid (HRA.out.later hb3)
  have HRB3 := Lib.hid hrb
  clear hrb hb3 HRA HX2 HX1 HRF
  go_wp2_with fail
  refine (Energy_any o cap l fi la w3 (HR.out.later HB3.out) hl).mono ?_
  rintro e w4 ⟨rfl, hb4⟩
  have HB4 := Lib.hid hb4
  clear hb4
  have HEV := Lib.hid (show enV l fi la = .tuple #[.int .i64 (enN l fi la), .int .i64 (if enOk l fi la then 0 else 1)] from rfl)
  have HRE := Lib.hid (fun W (h : Rds W o l) => refEnergy_any o cap l fi la W h hl)
  rw [HEV.out] at HRE ⊢
  obtain ⟨N, hN⟩ : ∃ N, enN l fi la = N := ⟨_, rfl⟩
  obtain ⟨G, hG⟩ : ∃ G, (if enOk l fi la then (0 : Int) else 1) = G := ⟨_, rfl⟩
  rw [hN, hG] at HRE ⊢
  clear hN hG HEV
  go_wp2_with fail
  refine (HRE.out w4 (HR.out.later (below_step HB3.out HB4.out))).mono ?_
  rintro e w5 ⟨rfl, hb5⟩
  have HB5 := Lib.hid (below_step HB3.out (below_step HB4.out hb5))
  have HX5 := Lib.hid (HX3.out.later (below_step HB4.out hb5))
  have HRA5 := Lib.hid (HRA3.out.later (below_step HB4.out hb5))
  have HRB5 := Lib.hid (HRB3.out.later (below_step HB4.out hb5))
  clear hb5 HRE HB4 HRA3 HRB3 HX3
  have K1 := Lib.hid (fun w' => Link_any seed x hs w')
  have K2 := Lib.hid (fun w' => refLink_any seed x hs w')
  have K3 := Lib.hid (fun w' (h : Below w5.heap.size w5 w') => refSame_any oa ob ca cb A A w' (HRA5.out.later h) (HRB5.out.later h) HLL.out)
  rw [decide_eq_true (rfl : A = A)] at K3
  have K4 := Lib.hid (fun w' (h : Below w5.heap.size w5 w') => Check_any seed o cap l w' hs (HR.out.later (below_step HB5.out h)) hl)
  have K5 := Lib.hid (fun w' (h : Below w5.heap.size w5 w') => refCheck_any seed o cap l w' hs (HR.out.later (below_step HB5.out h)) hl)
  obtain ⟨LK, hLK⟩ : ∃ LK, link seed x = LK := ⟨_, rfl⟩
  rw [hLK] at K1 K2
  obtain ⟨C, hC⟩ : ∃ C, chk seed l = C := ⟨_, rfl⟩
  rw [hC] at K4 K5
  clear hLK hC HRA5 HRB5
  go_wp2_with fail
  refine wp_region_B 39 (fun w'' => Below w5.heap.size w5 w'') mixed (by kernel_rfl) (below_closed w5) (Below.refl _ _).drew ?_
  simp only [List.take_succ_cons, List.take_zero, List.drop_succ_cons, List.drop_zero]
  intro KR hR
  have HR := Lib.hid hR
  clear hR
  have HCC := Lib.hid (show ∀ w'', Below w5.heap.size w5 w'' → w''.cell? ⟨w.heap.size, 0, none⟩ = some (.int .i64 x.s) ∧ w''.cell? ⟨w.heap.size, 1, none⟩ = some (.int .i64 x.n) ∧ w''.cell? ⟨w.heap.size, 2, none⟩ = some (.int .i64 x.m) ∧ w''.cell? ⟨w.heap.size, 3, none⟩ = some (.int .i64 x.r) ∧ w''.cell? ⟨w.heap.size, 4, none⟩ = some (.int .u64 (x.k : Nat)) from fun w'' hw => ⟨(HX5.out.later hw).cells.1, (HX5.out.later hw).cells.2.1, (HX5.out.later hw).cells.2.2.1, (HX5.out.later hw).cells.2.2.2.1, (HX5.out.later hw).cells.2.2.2.2⟩)
  ((with_reducible refine wpB_move ?_ ?_); exact rfl; simp only [Act.put, List.setIfInBounds_toArray, List.set_cons_zero, List.set_cons_succ])
  ((with_reducible refine wpB_move ?_ ?_); exact rfl; simp only [Act.put, List.setIfInBounds_toArray, List.set_cons_zero, List.set_cons_succ])
  ((with_reducible refine wpB_move ?_ ?_); exact rfl; simp only [Act.put, List.setIfInBounds_toArray, List.set_cons_zero, List.set_cons_succ])
  apply wpB_val rfl
  · (intro w' hw'; obtain ⟨c0, c1, c2, c3, c4⟩ := HCC.out w' hw'; go_simp; with_reducible rfl)
  simp only [Act.put, List.setIfInBounds_toArray, List.set_cons_zero, List.set_cons_succ]
  apply wpB_call 16 #[.int .u64 (seed : Nat), rdV x] rfl (v := _)
  · (intro w'; go_simp)
  · exact fun w' hw' => K1.out w'
  simp only [Act.put, List.setIfInBounds_toArray, List.set_cons_zero, List.set_cons_succ]
  ((with_reducible refine wpB_move ?_ ?_); exact rfl; simp only [Act.put, List.setIfInBounds_toArray, List.set_cons_zero, List.set_cons_succ])
  apply wpB_val rfl
  · (intro w' hw'; obtain ⟨c0, c1, c2, c3, c4⟩ := HCC.out w' hw'; go_simp; with_reducible rfl)
  simp only [Act.put, List.setIfInBounds_toArray, List.set_cons_zero, List.set_cons_succ]
  apply wpB_call 17 #[.int .u64 (seed : Nat), rdV x] rfl (v := _)
  · (intro w'; go_simp)
  · exact fun w' hw' => K2.out w'
  simp only [Act.put, List.setIfInBounds_toArray, List.set_cons_zero, List.set_cons_succ]
  apply wpB_val rfl
  · (intro w' hw'; go_simp; with_reducible rfl)
  simp only [Act.put, List.setIfInBounds_toArray, List.set_cons_zero, List.set_cons_succ]
  apply wpB_val rfl
  · (intro w' hw'; go_simp; with_reducible rfl)
  simp only [Act.put, List.setIfInBounds_toArray, List.set_cons_zero, List.set_cons_succ]
  ((with_reducible refine wpB_move ?_ ?_); exact rfl; simp only [Act.put, List.setIfInBounds_toArray, List.set_cons_zero, List.set_cons_succ])
  ((with_reducible refine wpB_move ?_ ?_); exact rfl; simp only [Act.put, List.setIfInBounds_toArray, List.set_cons_zero, List.set_cons_succ])
  ((with_reducible refine wpB_move ?_ ?_); exact rfl; simp only [Act.put, List.setIfInBounds_toArray, List.set_cons_zero, List.set_cons_succ])
  apply wpB_call 18 #[.slice oa A.length ca, .slice ob A.length cb] rfl (v := _)
  · (intro w'; go_simp)
  · exact fun w' hw' => K3.out w' hw'
  simp only [Act.put, List.setIfInBounds_toArray, List.set_cons_zero, List.set_cons_succ]
  apply wpB_val rfl
  · (intro w' hw'; go_simp; with_reducible rfl)
  simp only [Act.put, List.setIfInBounds_toArray, List.set_cons_zero, List.set_cons_succ]
  ((with_reducible refine wpB_move ?_ ?_); exact rfl; simp only [Act.put, List.setIfInBounds_toArray, List.set_cons_zero, List.set_cons_succ])
  ((with_reducible refine wpB_move ?_ ?_); exact rfl; simp only [Act.put, List.setIfInBounds_toArray, List.set_cons_zero, List.set_cons_succ])
  ((with_reducible refine wpB_move ?_ ?_); exact rfl; simp only [Act.put, List.setIfInBounds_toArray, List.set_cons_zero, List.set_cons_succ])
  apply wpB_val rfl
  · (intro w' hw'; go_simp; with_reducible rfl)
  simp only [Act.put, List.setIfInBounds_toArray, List.set_cons_zero, List.set_cons_succ]
  apply wpB_val rfl
  · (intro w' hw'; go_simp; with_reducible rfl)
  simp only [Act.put, List.setIfInBounds_toArray, List.set_cons_zero, List.set_cons_succ]
  ((with_reducible refine wpB_move ?_ ?_); exact rfl; simp only [Act.put, List.setIfInBounds_toArray, List.set_cons_zero, List.set_cons_succ])
  ((with_reducible refine wpB_move ?_ ?_); exact rfl; simp only [Act.put, List.setIfInBounds_toArray, List.set_cons_zero, List.set_cons_succ])
  ((with_reducible refine wpB_move ?_ ?_); exact rfl; simp only [Act.put, List.setIfInBounds_toArray, List.set_cons_zero, List.set_cons_succ])
  apply wpB_call 19 #[.int .u64 (seed : Nat), .slice o l.length cap] rfl (v := _)
  · (intro w'; go_simp)
  · exact fun w' hw' => K4.out w' hw'
  simp only [Act.put, List.setIfInBounds_toArray, List.set_cons_zero, List.set_cons_succ]
  ((with_reducible refine wpB_move ?_ ?_); exact rfl; simp only [Act.put, List.setIfInBounds_toArray, List.set_cons_zero, List.set_cons_succ])
  ((with_reducible refine wpB_move ?_ ?_); exact rfl; simp only [Act.put, List.setIfInBounds_toArray, List.set_cons_zero, List.set_cons_succ])
  apply wpB_call 20 #[.int .u64 (seed : Nat), .slice o l.length cap] rfl (v := _)
  · (intro w'; go_simp)
  · exact fun w' hw' => K5.out w' hw'
  simp only [Act.put, List.setIfInBounds_toArray, List.set_cons_zero, List.set_cons_succ]
  apply wpB_val rfl
  · (intro w' hw'; go_simp; with_reducible rfl)
  simp only [Act.put, List.setIfInBounds_toArray, List.set_cons_zero, List.set_cons_succ]
  apply wpB_val rfl
  · (intro w' hw'; go_simp; with_reducible rfl)
  simp only [Act.put, List.setIfInBounds_toArray, List.set_cons_zero, List.set_cons_succ]
  ((with_reducible refine wpB_move ?_ ?_); exact rfl; simp only [Act.put, List.setIfInBounds_toArray, List.set_cons_zero, List.set_cons_succ])
  ((with_reducible refine wpB_move ?_ ?_); exact rfl; simp only [Act.put, List.setIfInBounds_toArray, List.set_cons_zero, List.set_cons_succ])
  ((with_reducible refine wpB_move ?_ ?_); exact rfl; simp only [Act.put, List.setIfInBounds_toArray, List.set_cons_zero, List.set_cons_succ])
  apply wpB_val rfl
  · (intro w' hw'; go_simp; with_reducible rfl)
  simp only [Act.put, List.setIfInBounds_toArray, List.set_cons_zero, List.set_cons_succ]
  apply wpB_val rfl
  · (intro w' hw'; go_simp; with_reducible rfl)
  simp only [Act.put, List.setIfInBounds_toArray, List.set_cons_zero, List.set_cons_succ]
  ((with_reducible refine wpB_move ?_ ?_); exact rfl; simp only [Act.put, List.setIfInBounds_toArray, List.set_cons_zero, List.set_cons_succ])
  ((with_reducible refine wpB_move ?_ ?_); exact rfl; simp only [Act.put, List.setIfInBounds_toArray, List.set_cons_zero, List.set_cons_succ])
  ((with_reducible refine wpB_move ?_ ?_); exact rfl; simp only [Act.put, List.setIfInBounds_toArray, List.set_cons_zero, List.set_cons_succ])
  apply wpB_val rfl
  · (intro w' hw'; go_simp; with_reducible rfl)
  simp only [Act.put, List.setIfInBounds_toArray, List.set_cons_zero, List.set_cons_succ]
  apply wpB_val rfl
  · (intro w' hw'; go_simp; with_reducible rfl)
  simp only [Act.put, List.setIfInBounds_toArray, List.set_cons_zero, List.set_cons_succ]
  refine wpB_nil (HR.out _ (fun w2 hw2 => ?_))
  clear HR HCC
  have HB6 := Lib.hid (below_step HB5.out hw2)
  clear hw2
  go_wp2
  go_ret
  exact ⟨rfl, HB6.out⟩
end Go.Proofs.Ytckbooccgdddbaa
