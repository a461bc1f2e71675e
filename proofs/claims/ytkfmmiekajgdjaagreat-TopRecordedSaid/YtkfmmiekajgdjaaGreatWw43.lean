/- Package parser: key words and names. -/
import Derived.Test.YtkfmmiekajgdjaaGreatWd43
namespace Go.Proofs.YtkfmmiekajgdjaaGreat
open Go.RowKit
attribute [local go_sem] Oper.semAt_some

def hasB (K : List (List UInt8)) (s : ByteArray) : Bool := K.any (fun k => s.toList == k)
theorem hasB_at {K : List (List UInt8)} {s : ByteArray} {i : Nat} {l : List UInt8} (h : K[i]? = some l) (e : (s.toList == l) = true) : hasB K s = true := List.any_eq_true.2 ⟨l, List.mem_of_getElem? h, e⟩
def kindOfK : List (List UInt8) := [[102, 101, 101, 100, 101, 114], [99, 97, 98, 108, 101], [111, 119, 110, 101, 114], [99, 111, 110, 116, 114, 97, 99, 116], [99, 104, 97, 114, 103, 101, 114], [98, 97, 121], [116, 97, 114, 105, 102, 102]]
def isAttrK : List (List UInt8) := [[108, 105, 109, 105, 116], [110, 101, 117, 116, 114, 97, 108], [102, 117, 115, 101], [116, 104, 101, 114, 109, 97, 108], [102, 114, 111, 109], [97, 116], [112, 104, 97, 115, 101, 115], [97, 109, 112, 115], [102, 97, 108, 108, 98, 97, 99, 107], [111, 119, 110, 101, 114], [99, 97, 114, 100], [114, 97, 110, 107], [99, 104, 97, 114, 103, 101, 114]]
def isArticleK : List (List UInt8) := [[115, 116, 97, 114, 116], [101, 110, 101, 114, 103, 121], [116, 105, 109, 101], [105, 100, 108, 101], [99, 97, 112], [116, 97, 120]]
def isWordK : List (List UInt8) := [[111, 110], [119, 111, 114, 107], [115, 97, 116, 117, 114, 100, 97, 121], [115, 117, 110, 100, 97, 121], [98, 101, 116, 119, 101, 101, 110], [112, 101, 114], [102, 114, 101, 101]]
theorem isKeyA_of {s : ByteArray} : isKeyA s = (hasB kindOfK s || (hasB isAttrK s || (hasB isArticleK s || hasB isWordK s))) := by
  rw [Bool.eq_iff_iff]
  unfold isKeyA hasB
  simp only [Bool.or_eq_true, List.any_eq_true, ← exists_or, ← or_and_right]
  constructor
  · rintro ⟨x, hx, e⟩
    refine ⟨x, ?_, e⟩
    have h : keysA.all (fun x => kindOfK.contains x || (isAttrK.contains x || (isArticleK.contains x || isWordK.contains x))) = true := by decide
    have := List.all_eq_true.1 h x hx
    simpa using this
  · rintro ⟨x, hx, e⟩
    refine ⟨x, ?_, e⟩
    have h : (kindOfK ++ (isAttrK ++ (isArticleK ++ isWordK))).all (fun x => keysA.contains x) = true := by decide
    have := List.all_eq_true.1 h x (by simpa using hx)
    simpa using this
def KindOut (s : ByteArray) (w : World) (e : Ending) (w' : World) : Prop := w = w' ∧ ∃ n : Int, e = .returned (.int .i64 n) ∧ (n == 0) = !hasB kindOfK s
theorem kind_out {s : ByteArray} {w : World} {n : Int} (h : (n == 0) = !hasB kindOfK s) : KindOut s w (.returned (.int .i64 n)) w := ⟨rfl, n, rfl, h⟩
set_option maxRecDepth 100000 in
set_option maxHeartbeats 16000000 in
theorem pkindOf_any (s : ByteArray) (w : World) : Calls Tryz.prog 116 #[.string s] w (KindOut s w) := by
  have HKO := Lib.hid (fun (n : Int) h => kind_out (s := s) (w := w) (n := n) h)
  obtain ⟨V, hV⟩ : ∃ V, hasB kindOfK s = V := ⟨_, rfl⟩
  rw [hV] at HKO
  obtain ⟨OUT, hO⟩ : ∃ O, KindOut s w = O := ⟨_, rfl⟩
  rw [hO] at HKO ⊢
  clear hO
  have HV := Lib.hid hV
  clear hV
  go_enter Tryz.func116, Tryz.ntmps116
  obtain ⟨b0, e0⟩ : ∃ b, (s.toList == [102, 101, 101, 100, 101, 114]) = b := ⟨_, rfl⟩
  cases b0 with
  | true =>
    obtain rfl : true = V := by rw [← HV.out, hasB_at (K := kindOfK) (i := 0) rfl e0]
    clear HV
    go_wp2
    exact HKO.out 1 rfl
  | false =>
  have H0 := Lib.hid e0
  obtain ⟨b1, e1⟩ : ∃ b, (s.toList == [99, 97, 98, 108, 101]) = b := ⟨_, rfl⟩
  cases b1 with
  | true =>
    obtain rfl : true = V := by rw [← HV.out, hasB_at (K := kindOfK) (i := 1) rfl e1]
    clear HV
    go_wp2
    exact HKO.out 2 rfl
  | false =>
  have H1 := Lib.hid e1
  obtain ⟨b2, e2⟩ : ∃ b, (s.toList == [111, 119, 110, 101, 114]) = b := ⟨_, rfl⟩
  cases b2 with
  | true =>
    obtain rfl : true = V := by rw [← HV.out, hasB_at (K := kindOfK) (i := 2) rfl e2]
    clear HV
    go_wp2
    exact HKO.out 3 rfl
  | false =>
  have H2 := Lib.hid e2
  obtain ⟨b3, e3⟩ : ∃ b, (s.toList == [99, 111, 110, 116, 114, 97, 99, 116]) = b := ⟨_, rfl⟩
  cases b3 with
  | true =>
    obtain rfl : true = V := by rw [← HV.out, hasB_at (K := kindOfK) (i := 3) rfl e3]
    clear HV
    go_wp2
    exact HKO.out 4 rfl
  | false =>
  have H3 := Lib.hid e3
  obtain ⟨b4, e4⟩ : ∃ b, (s.toList == [99, 104, 97, 114, 103, 101, 114]) = b := ⟨_, rfl⟩
  cases b4 with
  | true =>
    obtain rfl : true = V := by rw [← HV.out, hasB_at (K := kindOfK) (i := 4) rfl e4]
    clear HV
    go_wp2
    exact HKO.out 5 rfl
  | false =>
  have H4 := Lib.hid e4
  obtain ⟨b5, e5⟩ : ∃ b, (s.toList == [98, 97, 121]) = b := ⟨_, rfl⟩
  cases b5 with
  | true =>
    obtain rfl : true = V := by rw [← HV.out, hasB_at (K := kindOfK) (i := 5) rfl e5]
    clear HV
    go_wp2
    exact HKO.out 6 rfl
  | false =>
  have H5 := Lib.hid e5
  obtain ⟨b6, e6⟩ : ∃ b, (s.toList == [116, 97, 114, 105, 102, 102]) = b := ⟨_, rfl⟩
  cases b6 with
  | true =>
    obtain rfl : true = V := by rw [← HV.out, hasB_at (K := kindOfK) (i := 6) rfl e6]
    clear HV
    go_wp2
    exact HKO.out 7 rfl
  | false =>
  have H6 := Lib.hid e6
  obtain rfl : false = V := by rw [← HV.out]; unfold hasB kindOfK; simp only [List.any_cons, List.any_nil, Bool.or_self, H0.out, H1.out, H2.out, H3.out, H4.out, H5.out, H6.out]
  go_wp2
  exact HKO.out 0 rfl
set_option maxRecDepth 100000 in
set_option maxHeartbeats 16000000 in
theorem pisAttr_any (s : ByteArray) (w : World) : Calls Tryz.prog 109 #[.string s] w (fun e w' => e = .returned (.bool (hasB isAttrK s)) ∧ w = w') := by
  obtain ⟨V, hV⟩ : ∃ V, hasB isAttrK s = V := ⟨_, rfl⟩
  rw [hV]
  have HV := Lib.hid hV
  clear hV
  go_enter Tryz.func109, Tryz.ntmps109
  obtain ⟨b0, e0⟩ : ∃ b, (s.toList == [108, 105, 109, 105, 116]) = b := ⟨_, rfl⟩
  cases b0 with
  | true =>
    obtain rfl : true = V := by rw [← HV.out, hasB_at (K := isAttrK) (i := 0) rfl e0]
    clear HV
    go_wp2
    go_ret
    exact ⟨rfl, rfl⟩
  | false =>
  have H0 := Lib.hid e0
  obtain ⟨b1, e1⟩ : ∃ b, (s.toList == [110, 101, 117, 116, 114, 97, 108]) = b := ⟨_, rfl⟩
  cases b1 with
  | true =>
    obtain rfl : true = V := by rw [← HV.out, hasB_at (K := isAttrK) (i := 1) rfl e1]
    clear HV
    go_wp2
    go_ret
    exact ⟨rfl, rfl⟩
  | false =>
  have H1 := Lib.hid e1
  obtain ⟨b2, e2⟩ : ∃ b, (s.toList == [102, 117, 115, 101]) = b := ⟨_, rfl⟩
  cases b2 with
  | true =>
    obtain rfl : true = V := by rw [← HV.out, hasB_at (K := isAttrK) (i := 2) rfl e2]
    clear HV
    go_wp2
    go_ret
    exact ⟨rfl, rfl⟩
  | false =>
  have H2 := Lib.hid e2
  obtain ⟨b3, e3⟩ : ∃ b, (s.toList == [116, 104, 101, 114, 109, 97, 108]) = b := ⟨_, rfl⟩
  cases b3 with
  | true =>
    obtain rfl : true = V := by rw [← HV.out, hasB_at (K := isAttrK) (i := 3) rfl e3]
    clear HV
    go_wp2
    go_ret
    exact ⟨rfl, rfl⟩
  | false =>
  have H3 := Lib.hid e3
  obtain ⟨b4, e4⟩ : ∃ b, (s.toList == [102, 114, 111, 109]) = b := ⟨_, rfl⟩
  cases b4 with
  | true =>
    obtain rfl : true = V := by rw [← HV.out, hasB_at (K := isAttrK) (i := 4) rfl e4]
    clear HV
    go_wp2
    go_ret
    exact ⟨rfl, rfl⟩
  | false =>
  have H4 := Lib.hid e4
  obtain ⟨b5, e5⟩ : ∃ b, (s.toList == [97, 116]) = b := ⟨_, rfl⟩
  cases b5 with
  | true =>
    obtain rfl : true = V := by rw [← HV.out, hasB_at (K := isAttrK) (i := 5) rfl e5]
    clear HV
    go_wp2
    go_ret
    exact ⟨rfl, rfl⟩
  | false =>
  have H5 := Lib.hid e5
  obtain ⟨b6, e6⟩ : ∃ b, (s.toList == [112, 104, 97, 115, 101, 115]) = b := ⟨_, rfl⟩
  cases b6 with
  | true =>
    obtain rfl : true = V := by rw [← HV.out, hasB_at (K := isAttrK) (i := 6) rfl e6]
    clear HV
    go_wp2
    go_ret
    exact ⟨rfl, rfl⟩
  | false =>
  have H6 := Lib.hid e6
  obtain ⟨b7, e7⟩ : ∃ b, (s.toList == [97, 109, 112, 115]) = b := ⟨_, rfl⟩
  cases b7 with
  | true =>
    obtain rfl : true = V := by rw [← HV.out, hasB_at (K := isAttrK) (i := 7) rfl e7]
    clear HV
    go_wp2
    go_ret
    exact ⟨rfl, rfl⟩
  | false =>
  have H7 := Lib.hid e7
  obtain ⟨b8, e8⟩ : ∃ b, (s.toList == [102, 97, 108, 108, 98, 97, 99, 107]) = b := ⟨_, rfl⟩
  cases b8 with
  | true =>
    obtain rfl : true = V := by rw [← HV.out, hasB_at (K := isAttrK) (i := 8) rfl e8]
    clear HV
    go_wp2
    go_ret
    exact ⟨rfl, rfl⟩
  | false =>
  have H8 := Lib.hid e8
  obtain ⟨b9, e9⟩ : ∃ b, (s.toList == [111, 119, 110, 101, 114]) = b := ⟨_, rfl⟩
  cases b9 with
  | true =>
    obtain rfl : true = V := by rw [← HV.out, hasB_at (K := isAttrK) (i := 9) rfl e9]
    clear HV
    go_wp2
    go_ret
    exact ⟨rfl, rfl⟩
  | false =>
  have H9 := Lib.hid e9
  obtain ⟨b10, e10⟩ : ∃ b, (s.toList == [99, 97, 114, 100]) = b := ⟨_, rfl⟩
  cases b10 with
  | true =>
    obtain rfl : true = V := by rw [← HV.out, hasB_at (K := isAttrK) (i := 10) rfl e10]
    clear HV
    go_wp2
    go_ret
    exact ⟨rfl, rfl⟩
  | false =>
  have H10 := Lib.hid e10
  obtain ⟨b11, e11⟩ : ∃ b, (s.toList == [114, 97, 110, 107]) = b := ⟨_, rfl⟩
  cases b11 with
  | true =>
    obtain rfl : true = V := by rw [← HV.out, hasB_at (K := isAttrK) (i := 11) rfl e11]
    clear HV
    go_wp2
    go_ret
    exact ⟨rfl, rfl⟩
  | false =>
  have H11 := Lib.hid e11
  obtain ⟨b12, e12⟩ : ∃ b, (s.toList == [99, 104, 97, 114, 103, 101, 114]) = b := ⟨_, rfl⟩
  cases b12 with
  | true =>
    obtain rfl : true = V := by rw [← HV.out, hasB_at (K := isAttrK) (i := 12) rfl e12]
    clear HV
    go_wp2
    go_ret
    exact ⟨rfl, rfl⟩
  | false =>
  have H12 := Lib.hid e12
  obtain rfl : false = V := by rw [← HV.out]; unfold hasB isAttrK; simp only [List.any_cons, List.any_nil, Bool.or_self, H0.out, H1.out, H2.out, H3.out, H4.out, H5.out, H6.out, H7.out, H8.out, H9.out, H10.out, H11.out, H12.out]
  go_wp2
  go_ret
  exact ⟨rfl, rfl⟩
set_option maxRecDepth 100000 in
set_option maxHeartbeats 16000000 in
theorem pisArticle_any (s : ByteArray) (w : World) : Calls Tryz.prog 110 #[.string s] w (fun e w' => e = .returned (.bool (hasB isArticleK s)) ∧ w = w') := by
  obtain ⟨V, hV⟩ : ∃ V, hasB isArticleK s = V := ⟨_, rfl⟩
  rw [hV]
  have HV := Lib.hid hV
  clear hV
  go_enter Tryz.func110, Tryz.ntmps110
  obtain ⟨b0, e0⟩ : ∃ b, (s.toList == [115, 116, 97, 114, 116]) = b := ⟨_, rfl⟩
  cases b0 with
  | true =>
    obtain rfl : true = V := by rw [← HV.out, hasB_at (K := isArticleK) (i := 0) rfl e0]
    clear HV
    go_wp2
    go_ret
    exact ⟨rfl, rfl⟩
  | false =>
  have H0 := Lib.hid e0
  obtain ⟨b1, e1⟩ : ∃ b, (s.toList == [101, 110, 101, 114, 103, 121]) = b := ⟨_, rfl⟩
  cases b1 with
  | true =>
    obtain rfl : true = V := by rw [← HV.out, hasB_at (K := isArticleK) (i := 1) rfl e1]
    clear HV
    go_wp2
    go_ret
    exact ⟨rfl, rfl⟩
  | false =>
  have H1 := Lib.hid e1
  obtain ⟨b2, e2⟩ : ∃ b, (s.toList == [116, 105, 109, 101]) = b := ⟨_, rfl⟩
  cases b2 with
  | true =>
    obtain rfl : true = V := by rw [← HV.out, hasB_at (K := isArticleK) (i := 2) rfl e2]
    clear HV
    go_wp2
    go_ret
    exact ⟨rfl, rfl⟩
  | false =>
  have H2 := Lib.hid e2
  obtain ⟨b3, e3⟩ : ∃ b, (s.toList == [105, 100, 108, 101]) = b := ⟨_, rfl⟩
  cases b3 with
  | true =>
    obtain rfl : true = V := by rw [← HV.out, hasB_at (K := isArticleK) (i := 3) rfl e3]
    clear HV
    go_wp2
    go_ret
    exact ⟨rfl, rfl⟩
  | false =>
  have H3 := Lib.hid e3
  obtain ⟨b4, e4⟩ : ∃ b, (s.toList == [99, 97, 112]) = b := ⟨_, rfl⟩
  cases b4 with
  | true =>
    obtain rfl : true = V := by rw [← HV.out, hasB_at (K := isArticleK) (i := 4) rfl e4]
    clear HV
    go_wp2
    go_ret
    exact ⟨rfl, rfl⟩
  | false =>
  have H4 := Lib.hid e4
  obtain ⟨b5, e5⟩ : ∃ b, (s.toList == [116, 97, 120]) = b := ⟨_, rfl⟩
  cases b5 with
  | true =>
    obtain rfl : true = V := by rw [← HV.out, hasB_at (K := isArticleK) (i := 5) rfl e5]
    clear HV
    go_wp2
    go_ret
    exact ⟨rfl, rfl⟩
  | false =>
  have H5 := Lib.hid e5
  obtain rfl : false = V := by rw [← HV.out]; unfold hasB isArticleK; simp only [List.any_cons, List.any_nil, Bool.or_self, H0.out, H1.out, H2.out, H3.out, H4.out, H5.out]
  go_wp2
  go_ret
  exact ⟨rfl, rfl⟩
set_option maxRecDepth 100000 in
set_option maxHeartbeats 16000000 in
theorem pisWord_any (s : ByteArray) (w : World) : Calls Tryz.prog 117 #[.string s] w (fun e w' => e = .returned (.bool (hasB isWordK s)) ∧ w = w') := by
  obtain ⟨V, hV⟩ : ∃ V, hasB isWordK s = V := ⟨_, rfl⟩
  rw [hV]
  have HV := Lib.hid hV
  clear hV
  go_enter Tryz.func117, Tryz.ntmps117
  obtain ⟨b0, e0⟩ : ∃ b, (s.toList == [111, 110]) = b := ⟨_, rfl⟩
  cases b0 with
  | true =>
    obtain rfl : true = V := by rw [← HV.out, hasB_at (K := isWordK) (i := 0) rfl e0]
    clear HV
    go_wp2
    go_ret
    exact ⟨rfl, rfl⟩
  | false =>
  have H0 := Lib.hid e0
  obtain ⟨b1, e1⟩ : ∃ b, (s.toList == [119, 111, 114, 107]) = b := ⟨_, rfl⟩
  cases b1 with
  | true =>
    obtain rfl : true = V := by rw [← HV.out, hasB_at (K := isWordK) (i := 1) rfl e1]
    clear HV
    go_wp2
    go_ret
    exact ⟨rfl, rfl⟩
  | false =>
  have H1 := Lib.hid e1
  obtain ⟨b2, e2⟩ : ∃ b, (s.toList == [115, 97, 116, 117, 114, 100, 97, 121]) = b := ⟨_, rfl⟩
  cases b2 with
  | true =>
    obtain rfl : true = V := by rw [← HV.out, hasB_at (K := isWordK) (i := 2) rfl e2]
    clear HV
    go_wp2
    go_ret
    exact ⟨rfl, rfl⟩
  | false =>
  have H2 := Lib.hid e2
  obtain ⟨b3, e3⟩ : ∃ b, (s.toList == [115, 117, 110, 100, 97, 121]) = b := ⟨_, rfl⟩
  cases b3 with
  | true =>
    obtain rfl : true = V := by rw [← HV.out, hasB_at (K := isWordK) (i := 3) rfl e3]
    clear HV
    go_wp2
    go_ret
    exact ⟨rfl, rfl⟩
  | false =>
  have H3 := Lib.hid e3
  obtain ⟨b4, e4⟩ : ∃ b, (s.toList == [98, 101, 116, 119, 101, 101, 110]) = b := ⟨_, rfl⟩
  cases b4 with
  | true =>
    obtain rfl : true = V := by rw [← HV.out, hasB_at (K := isWordK) (i := 4) rfl e4]
    clear HV
    go_wp2
    go_ret
    exact ⟨rfl, rfl⟩
  | false =>
  have H4 := Lib.hid e4
  obtain ⟨b5, e5⟩ : ∃ b, (s.toList == [112, 101, 114]) = b := ⟨_, rfl⟩
  cases b5 with
  | true =>
    obtain rfl : true = V := by rw [← HV.out, hasB_at (K := isWordK) (i := 5) rfl e5]
    clear HV
    go_wp2
    go_ret
    exact ⟨rfl, rfl⟩
  | false =>
  have H5 := Lib.hid e5
  obtain ⟨b6, e6⟩ : ∃ b, (s.toList == [102, 114, 101, 101]) = b := ⟨_, rfl⟩
  cases b6 with
  | true =>
    obtain rfl : true = V := by rw [← HV.out, hasB_at (K := isWordK) (i := 6) rfl e6]
    clear HV
    go_wp2
    go_ret
    exact ⟨rfl, rfl⟩
  | false =>
  have H6 := Lib.hid e6
  obtain rfl : false = V := by rw [← HV.out]; unfold hasB isWordK; simp only [List.any_cons, List.any_nil, Bool.or_self, H0.out, H1.out, H2.out, H3.out, H4.out, H5.out, H6.out]
  go_wp2
  go_ret
  exact ⟨rfl, rfl⟩
set_option maxHeartbeats 8000000 in
theorem pisKey_any (s : ByteArray) (w : World) : Calls Tryz.prog 108 #[.string s] w (fun e w' => e = .returned (.bool (isKeyA s)) ∧ w = w') := by
  rw [isKeyA_of]
  obtain ⟨b1, h1⟩ : ∃ b, hasB kindOfK s = b := ⟨_, rfl⟩
  obtain ⟨b2, h2⟩ : ∃ b, hasB isAttrK s = b := ⟨_, rfl⟩
  obtain ⟨b3, h3⟩ : ∃ b, hasB isArticleK s = b := ⟨_, rfl⟩
  obtain ⟨b4, h4⟩ : ∃ b, hasB isWordK s = b := ⟨_, rfl⟩
  have H1 := Lib.hid h1
  have H2 := Lib.hid h2
  have H3 := Lib.hid h3
  have H4 := Lib.hid h4
  rw [h1, h2, h3, h4]
  clear h1 h2 h3 h4
  go_enter Tryz.func108, Tryz.ntmps108
  go_wp2_with fail
  refine (pkindOf_any s w).mono ?_
  rintro _ _ ⟨rfl, n, rfl, hn⟩
  rw [H1.out] at hn
  have hn2 : (n != 0) = b1 := by unfold bne; rw [hn]; simp
  cases b1 with
  | true =>
    simp only [Bool.not_true] at hn
    go_wp2
    go_ret
    exact ⟨rfl, rfl⟩
  | false =>
  simp only [Bool.not_false] at hn
  go_wp2_with fail
  refine (pisAttr_any s w).mono ?_
  rintro _ _ ⟨rfl, rfl⟩
  rw [H2.out]
  cases b2 with
  | true =>
    go_wp2
    go_ret
    exact ⟨rfl, rfl⟩
  | false =>
  go_wp2_with fail
  refine (pisArticle_any s w).mono ?_
  rintro _ _ ⟨rfl, rfl⟩
  rw [H3.out]
  cases b3 with
  | true =>
    go_wp2
    go_ret
    exact ⟨rfl, rfl⟩
  | false =>
  go_wp2_with fail
  refine (pisWord_any s w).mono ?_
  rintro _ _ ⟨rfl, rfl⟩
  rw [H4.out]
  go_wp2
  go_ret
  exact ⟨rfl, rfl⟩
def wordB (s : ByteArray) : Bool := lenN s.size && (!decide (bAt s 0 < 97) && (!decide (122 < bAt s 0) && bytesOk s))
theorem nameA_word (s : ByteArray) : nameA s = (wordB s && !isKeyA s) := by
  unfold nameA wordB
  cases lenN s.size <;> cases decide (bAt s 0 < 97) <;> cases decide (122 < bAt s 0) <;> cases isKeyA s <;> cases bytesOk s <;> rfl
set_option maxRecDepth 100000 in
set_option maxHeartbeats 16000000 in
theorem goodWord_any (s : ByteArray) (w : World) (hl : s.size ≤ 9000000000000000000) : Calls Tryz.prog 107 #[.string s] w (fun e w' => e = .returned (.bool (wordB s)) ∧ w = w') := by
  obtain ⟨V, hV⟩ : ∃ V, wordB s = V := ⟨_, rfl⟩
  rw [hV]
  have HV := Lib.hid (show (lenN s.size && (!decide (bAt s 0 < 97) && (!decide (122 < bAt s 0) && bytesOk s))) = V from hV)
  clear hV
  go_enter Tryz.func107, Tryz.ntmps107
  by_cases hs : s.size < 1
  · have d1 : decide ((s.size : Int) < 1) = true := decide_eq_true (by omega)
    obtain rfl : false = V := by rw [← HV.out]; unfold lenN; rw [decide_eq_false (show ¬ (1 : Int) ≤ (s.size : Int) by omega)]; rfl
    clear hs
    go_wp2
    go_ret
    exact ⟨rfl, rfl⟩
  have d1 : decide ((s.size : Int) < 1) = false := decide_eq_false (by omega)
  by_cases ht : 12 < s.size
  · have d2 : decide ((12 : Int) < (s.size : Int)) = true := decide_eq_true (by omega)
    obtain rfl : false = V := by rw [← HV.out]; unfold lenN; rw [decide_eq_false (show ¬ (s.size : Int) ≤ 12 by omega)]; simp
    clear hs ht
    go_wp2
    go_ret
    exact ⟨rfl, rfl⟩
  have d2 : decide ((12 : Int) < (s.size : Int)) = false := decide_eq_false (by omega)
  have h0 : 0 < s.size := by omega
  have HLN := Lib.hid (show lenN s.size = true by unfold lenN; simp; omega)
  have HB0 := Lib.hid (bAt_eq h0)
  rw [HB0.out, HLN.out] at HV
  have hi0 : (0 : Int) < (s.size : Int) := by omega
  obtain ⟨c, hc⟩ : ∃ c, s[0].toNat = c := ⟨_, rfl⟩
  have HC := Lib.hid hc
  rw [hc] at HV
  by_cases h97 : c < 97
  · have d3 : decide ((c : Int) < 97) = true := decide_eq_true (by omega)
    obtain rfl : false = V := by rw [← HV.out, decide_eq_true h97]; rfl
    clear h97 hs ht
    go_wp2
    go_ret
    exact ⟨rfl, rfl⟩
  have d3 : decide ((c : Int) < 97) = false := decide_eq_false (by omega)
  by_cases h122 : 122 < c
  · have d4 : decide ((122 : Int) < (c : Int)) = true := decide_eq_true (by omega)
    obtain rfl : false = V := by rw [← HV.out, decide_eq_true h122]; simp
    clear h122 h97 hs ht
    go_wp2
    go_ret
    exact ⟨rfl, rfl⟩
  have d4 : decide ((122 : Int) < (c : Int)) = false := decide_eq_false (by omega)
  have HV3 := Lib.hid (show bytesOk s = V by rw [← HV.out, decide_eq_false h97, decide_eq_false h122]; rfl)
  have HOK0 := Lib.hid (show okB (bAt s 0) = true by rw [HB0.out, HC.out]; unfold okB; rw [decide_eq_true (show 97 ≤ c by omega), decide_eq_true (show c ≤ 122 by omega)]; rfl)
  clear HV h97 h122 hs ht
  go_upto_region 4 with (fail)
  clear d1 d2 d3 d4 hc
  try go_wp2
  go_loop [3] (fun i => ∃ k : Nat, 1 ≤ k ∧ k ≤ s.size ∧ i = .int .i64 k ∧ ∀ j, j < k → okB (bAt s j) = true) (fun i => s.size - (intOf i).toNat)
  case atStart => exact ⟨1, Nat.le_refl _, h0, rfl, fun j hj => (show j = 0 by omega) ▸ HOK0.out⟩
  case round =>
    obtain ⟨k, hk1, hk, rfl, hz⟩ := hrel
    have HZ := Lib.hid hz
    clear hz
    by_cases hlt : k < s.size

    · have HBK := Lib.hid (bAt_eq hlt)
      have hil : (k : Int) < (s.size : Int) := by omega
      have HBAD := Lib.hid (fun h => bytesOk_bad (s := s) hlt h)
      obtain ⟨c, hc⟩ : ∃ c, s[k].toNat = c := ⟨_, rfl⟩
      have HCK := Lib.hid (show bAt s k = c by rw [HBK.out, hc])
      rw [HCK.out] at HBAD
      have HGOOD := Lib.hid (fun (h : okB c = true) => show ∀ j, j < k + 1 → okB (bAt s j) = true from fun j hj => by
        by_cases e : j = k
        · subst e; rw [HCK.out]; exact h
        · exact HZ.out j (by omega))
      have hck : IntKind.u8.wrap (c : Int) = (c : Int) := by have := UInt8.toNat_lt s[k]; rw [hc] at this; simp [IntKind.wrap, IntKind.bits, IntKind.signed]; omega
      clear HBK HCK
      by_cases h1 : 97 ≤ c
      · by_cases h2 : c ≤ 122
        · have HN := Lib.hid (HGOOD.out (by unfold okB; rw [decide_eq_true h1, decide_eq_true h2]; rfl))
          have f0 : decide ((97 : Int) ≤ (c : Int)) = true := decide_eq_true (by omega)
          have f1 : decide ((c : Int) ≤ 122) = true := decide_eq_true (by omega)
          clear h1 h2
          go_wp2
          go_round
          case rel => exact ⟨k + 1, by omega, hlt, by go_num, HN.out⟩
          case measure => simp [intOf]; omega
        · have HX := Lib.hid (HBAD.out (by unfold okB; rw [decide_eq_true h1, decide_eq_false h2, decide_eq_false (show ¬ c ≤ 57 by omega), decide_eq_false (show ¬ c = 95 by omega)]; simp))
          have f0 : decide ((97 : Int) ≤ (c : Int)) = true := decide_eq_true (by omega)
          have f1 : decide ((c : Int) ≤ 122) = false := decide_eq_false (by omega)
          have f2 : decide ((48 : Int) ≤ (c : Int)) = true := decide_eq_true (by omega)
          have f3 : decide ((c : Int) ≤ 57) = false := decide_eq_false (by omega)
          have f4 : ((c : Int) == 95) = false := by rw [beq_eq_false_iff_ne]; omega
          obtain rfl : false = V := by rw [← HV3.out, HX.out]
          clear h1 h2
          go_wp2
          go_ret
          exact ⟨rfl, rfl⟩
      by_cases h3 : 48 ≤ c
      · by_cases h4 : c ≤ 57
        · have HN := Lib.hid (HGOOD.out (by unfold okB; rw [decide_eq_true h3, decide_eq_true h4]; simp))
          have f0 : decide ((97 : Int) ≤ (c : Int)) = false := decide_eq_false (by omega)
          have f1 : decide ((48 : Int) ≤ (c : Int)) = true := decide_eq_true (by omega)
          have f2 : decide ((c : Int) ≤ 57) = true := decide_eq_true (by omega)
          clear h1 h3 h4
          go_wp2
          go_round
          case rel => exact ⟨k + 1, by omega, hlt, by go_num, HN.out⟩
          case measure => simp [intOf]; omega
        · by_cases h5 : c = 95
          · have HN := Lib.hid (HGOOD.out (by unfold okB; rw [decide_eq_true h5]; simp))
            have f0 : decide ((97 : Int) ≤ (c : Int)) = false := decide_eq_false (by omega)
            have f1 : decide ((48 : Int) ≤ (c : Int)) = true := decide_eq_true (by omega)
            have f2 : decide ((c : Int) ≤ 57) = false := decide_eq_false (by omega)
            have f4 : ((c : Int) == 95) = true := by rw [h5]; rfl
            clear h1 h3 h4 h5
            go_wp2
            go_round
            case rel => exact ⟨k + 1, by omega, hlt, by go_num, HN.out⟩
            case measure => simp [intOf]; omega
          · have HX := Lib.hid (HBAD.out (by unfold okB; rw [decide_eq_false h1, decide_eq_false h4, decide_eq_false h5]; simp))
            have f0 : decide ((97 : Int) ≤ (c : Int)) = false := decide_eq_false (by omega)
            have f1 : decide ((48 : Int) ≤ (c : Int)) = true := decide_eq_true (by omega)
            have f2 : decide ((c : Int) ≤ 57) = false := decide_eq_false (by omega)
            have f4 : ((c : Int) == 95) = false := by rw [beq_eq_false_iff_ne]; omega
            obtain rfl : false = V := by rw [← HV3.out, HX.out]
            clear h1 h3 h4 h5
            go_wp2
            go_ret
            exact ⟨rfl, rfl⟩
      · have HX := Lib.hid (HBAD.out (by unfold okB; rw [decide_eq_false h1, decide_eq_false h3, decide_eq_false (show ¬ c = 95 by omega)]; simp))
        have f0 : decide ((97 : Int) ≤ (c : Int)) = false := decide_eq_false (by omega)
        have f1 : decide ((48 : Int) ≤ (c : Int)) = false := decide_eq_false (by omega)
        have f4 : ((c : Int) == 95) = false := by rw [beq_eq_false_iff_ne]; omega
        obtain rfl : false = V := by rw [← HV3.out, HX.out]
        clear h1 h3
        go_wp2
        go_ret
        exact ⟨rfl, rfl⟩
    · obtain rfl : k = s.size := by omega
      obtain rfl : true = V := by rw [← HV3.out, bytesOk_good HZ.out]
      go_wp2
      go_ret
      exact ⟨rfl, rfl⟩
set_option maxHeartbeats 8000000 in
theorem goodName_any (s : ByteArray) (w : World) (hl : s.size ≤ 9000000000000000000) : Calls Tryz.prog 100 #[.string s] w (fun e w' => e = .returned (.bool (nameA s)) ∧ w = w') := by
  rw [nameA_word]
  obtain ⟨b1, h1⟩ : ∃ b, wordB s = b := ⟨_, rfl⟩
  have H1 := Lib.hid h1
  rw [h1]
  clear h1
  go_enter Tryz.func100, Tryz.ntmps100
  go_wp2_with fail
  refine (goodWord_any s w hl).mono ?_
  rintro _ _ ⟨rfl, rfl⟩
  rw [H1.out]
  cases b1 with
  | false =>
    go_wp2
    go_ret
    exact ⟨rfl, rfl⟩
  | true =>
  go_wp2_with fail
  refine (pisKey_any s w).mono ?_
  rintro _ _ ⟨rfl, rfl⟩
  go_wp2
  go_ret
  exact ⟨rfl, rfl⟩
end Go.Proofs.YtkfmmiekajgdjaaGreat