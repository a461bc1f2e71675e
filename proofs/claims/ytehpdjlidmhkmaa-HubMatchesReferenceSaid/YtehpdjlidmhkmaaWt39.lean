/- Chapter 39: HubMatchesReference. -/
import Derived.Test.YtehpdjlidmhkmaaWs39
namespace Go.Proofs.Ytehpdjlidmhkmaa
open Go.RowKit
attribute [local go_sem] Oper.semAt_some

set_option maxRecDepth 100000 in
set_option maxHeartbeats 16000000 in
theorem matches_walk (o : Option Addr) (cap : Nat) (l : List Bx) (m : Msg) (f : Int) (w : World) (hr : Bxs w o l) (hl : l.length ≤ 1000000000000000) : Calls Try.prog 3 #[.slice o l.length cap, msgV m, .int .i64 f] w (Ret (.bool true) w) := by
  have HR := Lib.hid hr
  clear hr
  go_enter Try.func3, Try.ntmps3
  go_wp2_with fail
  have HB0 := Lib.hid (Box3.new w 24 (.int .i64 m.f) (.int .i64 m.n) (.int .i64 m.b))
  refine (head_any _).mono ?_
  rintro e x1 ⟨rfl, hb⟩
  have HB := Lib.hid (HB0.out.later hb)
  clear hb HB0
  go_wp2_with fail
  refine (few_any o cap l _ (HR.out.later HB.out.below) (by omega)).mono ?_
  rintro e x2 ⟨rfl, hb⟩
  replace HB := Lib.hid (HB.out.later hb)
  clear hb
  obtain ⟨F, hF⟩ : ∃ F, fewL l = F := ⟨_, rfl⟩
  rw [hF]
  clear hF
  cases F with
  | false =>
    go_wp2
    go_ret
    exact ⟨rfl, HB.out.below⟩
  | true =>
  have m0 := HB.out.c0
  have m1 := HB.out.c1
  have m2 := HB.out.c2
  go_wp2_with fail
  clear m0 m1 m2
  refine (Receive_any o cap l m _ (HR.out.later HB.out.below) hl).mono ?_
  rintro e x3 ⟨hb, oa, ox, ca, cx, rfl, hx, hy⟩
  replace HB := Lib.hid (HB.out.later hb)
  have HA := Lib.hid hx
  have HX := Lib.hid hy
  clear hb hx hy
  obtain ⟨LA, hLA⟩ : ∃ L, outL l m = L := ⟨_, rfl⟩
  obtain ⟨LX, hLX⟩ : ∃ L, outM l m = L := ⟨_, rfl⟩
  obtain ⟨E, hE⟩ : ∃ E, recvE l m = E := ⟨_, rfl⟩
  have HLA := Lib.hid hLA
  have HLX := Lib.hid hLX
  have HE := Lib.hid hE
  rw [hLA] at HA
  rw [hLX] at HX
  rw [hLA, hLX, hE]
  have hla : LA.length ≤ 9223372036854775807 := by
    rw [← hLA]
    unfold outL
    split
    · rename_i h0
      have := (validL_iff.1 (took h0).valid).1
      omega
    · simp
  have hlx : LX.length ≤ 9223372036854775807 := by
    rw [← hLX]
    unfold outM
    split
    · rename_i h0
      have h1 := (took h0).many
      have h2 := (validL_iff.1 (took h0).vl).2.1
      omega
    · simp
  clear hLA hLX hE
  have m0 := HB.out.c0
  have m1 := HB.out.c1
  have m2 := HB.out.c2
  go_wp2_with fail
  clear m0 m1 m2
  refine (refReceive_any o cap l m _ (HR.out.later HB.out.below) hl).mono ?_
  rintro e x4 ⟨hb, oc, oz, cc, cz, rfl, hx, hy⟩
  replace HB := Lib.hid (HB.out.later hb)
  replace HA := Lib.hid (HA.out.later hb)
  replace HX := Lib.hid (HX.out.later hb)
  have HC := Lib.hid hx
  have HZ := Lib.hid hy
  clear hb hx hy
  rw [HLA.out] at HC
  rw [HLX.out] at HZ
  rw [HLA.out, HLX.out, HE.out]
  go_wp2_with fail
  refine (sameB_at oa oc ca cc _ _ LA _ HA.out HC.out hla rfl rfl).mono ?_
  rintro e x5 ⟨rfl, hb⟩
  replace HB := Lib.hid (HB.out.later hb)
  replace HX := Lib.hid (HX.out.later hb)
  replace HZ := Lib.hid (HZ.out.later hb)
  clear hb
  go_wp2_with fail
  refine (sameM_at ox oz cx cz _ _ LX _ HX.out HZ.out hlx rfl rfl).mono ?_
  rintro e x6 ⟨rfl, hb⟩
  replace HB := Lib.hid (HB.out.later hb)
  clear hb
  go_wp2_with fail
  refine (Missing_any o cap l f _ (HR.out.later HB.out.below) hl).mono ?_
  rintro e x7 ⟨hb, og, cg, rfl, hx⟩
  replace HB := Lib.hid (HB.out.later hb)
  have HG := Lib.hid hx
  clear hb hx
  have hg64 : (missL l f).length ≤ 64 := by
    unfold missL
    split
    · rw [List.length_take]; omega
    · simp
  obtain ⟨G, hG⟩ : ∃ G, missL l f = G := ⟨_, rfl⟩
  have HGE := Lib.hid hG
  rw [hG] at HG hg64 ⊢
  clear hG
  go_wp2_with fail
  refine (refMissing_any o cap l f _ (HR.out.later HB.out.below) hl).mono ?_
  rintro e x8 ⟨hb, oh, ch, rfl, hx⟩
  replace HB := Lib.hid (HB.out.later hb)
  replace HG := Lib.hid (HG.out.later hb)
  have HH := Lib.hid hx
  clear hb hx
  rw [HGE.out] at HH
  rw [HGE.out]
  go_wp2_with fail
  refine (ints_at og oh cg ch _ _ G _ HG.out HH.out (by omega) rfl rfl).mono ?_
  rintro e x9 ⟨rfl, hb⟩
  replace HB := Lib.hid (HB.out.later hb)
  clear hb
  go_wp2_with fail
  refine (Valid_any o cap l _ (HR.out.later HB.out.below) (by omega)).mono ?_
  rintro e x10 ⟨rfl, hb⟩
  replace HB := Lib.hid (HB.out.later hb)
  clear hb
  obtain ⟨V, hV⟩ : ∃ V, validL l = V := ⟨_, rfl⟩
  have HV := Lib.hid hV
  rw [hV]
  clear hV
  go_wp2_with fail
  refine (refValid_any o cap l _ (HR.out.later HB.out.below) (by omega)).mono ?_
  rintro e x11 ⟨rfl, hb⟩
  replace HB := Lib.hid (HB.out.later hb)
  clear hb
  rw [HV.out]
  go_wp2
  go_ret
  exact ⟨rfl, HB.out.below⟩
end Go.Proofs.Ytehpdjlidmhkmaa
