/- Chapter 26: DaysMatchesReference, walked. -/
import Derived.Test.YtgjnekfmnepjeaaWi26
namespace Go.Proofs.Ytgjnekfmnepjeaa
open Go.RowKit

set_option maxHeartbeats 2000000 in
theorem DaysMatchesReference_any (o m d : Int) (oc oh : Option Addr) (kc kh : Nat) (cs : List (Int × Int)) (hs : List Int) (w : World) (hc : Twos w oc cs) (hh : Ints w oh hs) :
    Calls Try.prog 3 #[calV o oc cs.length kc oh hs.length kh, .int .i64 m, .int .i64 d] w (Ret (.bool true) w) := by
  have HC := Lib.hid hc
  have HH := Lib.hid hh
  obtain ⟨p, hp⟩ : ∃ p, fewB cs hs = p := ⟨_, rfl⟩
  have HP := Lib.hid hp
  obtain ⟨q, hq⟩ : ∃ q, validCal o cs hs = q := ⟨_, rfl⟩
  have HQ := Lib.hid hq
  obtain ⟨a, b, c, hl⟩ : ∃ a b c : Int, localV o cs hs m = .tuple #[.int .i64 a, .int .i64 b, .int .i64 c] := ⟨_, _, _, rfl⟩
  have HL := Lib.hid hl
  obtain ⟨k, l, ht⟩ : ∃ k l : Int, typeV o cs hs d = .tuple #[.int .i64 k, .int .i64 l] := ⟨_, _, rfl⟩
  have HT := Lib.hid ht
  clear hc hh hp hl ht hq
  go_enter Try.func3, Try.ntmps3
  go_wp2_with fail
  refine (head_any _).mono ?_
  rintro e w1 ⟨rfl, hb⟩
  have HX := Lib.hid ((Box3.new ..).later hb)
  clear hb
  have c0 := HX.out.c0
  have c1 := HX.out.c1
  have c2 := HX.out.c2
  go_wp2_with fail
  refine (few_any o oc oh kc kh cs hs _).mono ?_
  rintro e w1 ⟨rfl, hb⟩
  rw [HP.out]
  replace HX := Lib.hid (HX.out.later hb)
  clear hb c0 c1 c2
  cases p with
  | false =>
    go_wp2
    go_ret
    exact ⟨rfl, HX.out.below⟩
  | true =>
    have c0 := HX.out.c0
    have c1 := HX.out.c1
    have c2 := HX.out.c2
    go_wp2_with fail
    refine (local_any o m oc oh kc kh cs hs _ (HC.out.later HX.out.below) (HH.out.later HX.out.below)).mono ?_
    rintro e w1 ⟨rfl, hb⟩
    rw [HL.out]
    replace HX := Lib.hid (HX.out.later hb)
    clear hb c0 c1 c2
    have c0 := HX.out.c0
    have c1 := HX.out.c1
    have c2 := HX.out.c2
    go_wp2_with fail
    refine (refLocal_any o m oc oh kc kh cs hs _ (HC.out.later HX.out.below) (HH.out.later HX.out.below)).mono ?_
    rintro e w1 ⟨rfl, hb⟩
    rw [HL.out]
    replace HX := Lib.hid (HX.out.later hb)
    clear hb c0 c1 c2
    have c0 := HX.out.c0
    have c1 := HX.out.c1
    have c2 := HX.out.c2
    go_wp2_with fail
    refine (type_any o d oc oh kc kh cs hs _ (HC.out.later HX.out.below) (HH.out.later HX.out.below)).mono ?_
    rintro e w1 ⟨rfl, hb⟩
    rw [HT.out]
    replace HX := Lib.hid (HX.out.later hb)
    clear hb c0 c1 c2
    have c0 := HX.out.c0
    have c1 := HX.out.c1
    have c2 := HX.out.c2
    go_wp2_with fail
    refine (refType_any o d oc oh kc kh cs hs _ (HC.out.later HX.out.below) (HH.out.later HX.out.below)).mono ?_
    rintro e W ⟨rfl, hb⟩
    rw [HT.out]
    replace HX := Lib.hid (HX.out.later hb)
    clear hb c0 c1 c2
    go_wp2_with fail
    have d0 : ∀ w', Below W.heap.size W w' → w'.cell? ⟨w.heap.size, 0, none⟩ = some (.int .i64 o) := fun w' h => cell_kept h HX.out.c0
    have d1 : ∀ w', Below W.heap.size W w' → w'.cell? ⟨w.heap.size, 1, none⟩ = some (.slice oc cs.length kc) := fun w' h => cell_kept h HX.out.c1
    have d2 : ∀ w', Below W.heap.size W w' → w'.cell? ⟨w.heap.size, 2, none⟩ = some (.slice oh hs.length kh) := fun w' h => cell_kept h HX.out.c2
    refine wp_region_inv 33 (fun w' => Below W.heap.size W w') mixed (by kernel_rfl) (Below.refl _ _).drew ?_
    simp only [List.take_succ_cons, List.take_zero, List.drop_succ_cons, List.drop_zero]
    intro R hR
    have HRR := Lib.hid hR
    clear hR
    repeat (first
      | ((with_reducible refine wpInv_move ?_ ?_); exact rfl; simp only [Act.put, List.setIfInBounds_toArray, List.set_cons_zero, List.set_cons_succ])
      | ((with_reducible refine wpInv_skip ?_ ?_); exact rfl; simp only [Act.put, List.setIfInBounds_toArray, List.set_cons_zero, List.set_cons_succ])
      | (apply wpInv_call 16 #[calV o oc cs.length kc oh hs.length kh] rfl (v := .bool q)
         · (intro w'; go_simp)
         · exact fun w' hw' => (valid_any o oc oh kc kh cs hs w' (HC.out.later (below_step HX.out.below hw')) (HH.out.later (below_step HX.out.below hw'))).mono fun e w'' hh => ⟨by rw [hh.1, HQ.out], below_step hw' hh.2⟩
         simp only [Act.put, List.setIfInBounds_toArray, List.set_cons_zero, List.set_cons_succ])
      | (apply wpInv_call 17 #[calV o oc cs.length kc oh hs.length kh] rfl (v := .bool q)
         · (intro w'; go_simp)
         · exact fun w' hw' => (refValid_any o oc oh kc kh cs hs w' (HC.out.later (below_step HX.out.below hw')) (HH.out.later (below_step HX.out.below hw'))).mono fun e w'' hh => ⟨by rw [hh.1, HQ.out], below_step hw' hh.2⟩
         simp only [Act.put, List.setIfInBounds_toArray, List.set_cons_zero, List.set_cons_succ])
      | (apply wpInv_val rfl
         · (intro w' hw'; go_simp; with_reducible rfl)
         simp only [Act.put, List.setIfInBounds_toArray, List.set_cons_zero, List.set_cons_succ]))
    refine wpInv_nil (HRR.out _ (fun w3 hw3 => ?_))
    replace HX := Lib.hid (HX.out.later hw3)
    clear hw3 d0 d1 d2
    go_wp2
    go_ret
    exact ⟨rfl, HX.out.below⟩

end Go.Proofs.Ytgjnekfmnepjeaa
