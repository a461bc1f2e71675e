/- Chapter 39: HubSenders. -/
import Derived.Test.YtehpdjlidmhkmaaWs39
import Derived.Test.YtehpdjlidmhkmaaPlainF39
namespace Go.Proofs.Ytehpdjlidmhkmaa
open Go.RowKit
attribute [local go_sem] Oper.semAt_some

theorem outL_le (l : List Bx) (m : Msg) : (outL l m).length ≤ 1000000000000000 := by
  unfold outL
  split
  · rename_i h0
    have := (validL_iff.1 (took h0).valid).1
    omega
  · simp
theorem outM_le (l : List Bx) (m : Msg) : (outM l m).length ≤ 1000000000000000 := by
  unfold outM
  split
  · rename_i h0
    have h1 := (took h0).many
    have h2 := (validL_iff.1 (took h0).vl).2.1
    omega
  · simp

set_option maxRecDepth 100000 in
set_option maxHeartbeats 16000000 in
theorem senders_walk (o : Option Addr) (cap : Nat) (l : List Bx) (m n : Msg) (w : World) (hr : Bxs w o l) (hl : l.length ≤ 1000000000000000) : Calls Try.prog 7 #[.slice o l.length cap, msgV m, msgV n] w (Ret (.bool true) w) := by
  have HR := Lib.hid hr
  clear hr
  go_enter Try.func7, Try.ntmps7
  go_wp2_with fail
  have HM0 := Lib.hid ((Box3.new w 24 (.int .i64 m.f) (.int .i64 m.n) (.int .i64 m.b)).alloc (.cells #[.int .i64 n.f, .int .i64 n.n, .int .i64 n.b] 24))
  have HN0 := Lib.hid (show Blk ((w.alloc (.cells #[.int .i64 m.f, .int .i64 m.n, .int .i64 m.b] 24)).alloc (.cells #[.int .i64 n.f, .int .i64 n.n, .int .i64 n.b] 24)) (w.heap.size + 1) 24 #[.int .i64 n.f, .int .i64 n.n, .int .i64 n.b] from by
    have := Blk.new (w.alloc (.cells #[.int .i64 m.f, .int .i64 m.n, .int .i64 m.b] 24)) 24 #[.int .i64 n.f, .int .i64 n.n, .int .i64 n.b]
    rw [World.size_alloc] at this
    exact this)
  refine (head_any _).mono ?_
  rintro e x1 ⟨rfl, hb⟩
  have HM := Lib.hid (HM0.out.later hb)
  have HN := Lib.hid (HN0.out.later hb)
  clear hb HM0 HN0
  go_wp2_with fail
  refine (few_any o cap l _ (HR.out.later HM.out.below) (by omega)).mono ?_
  rintro e x2 ⟨rfl, hb⟩
  replace HM := Lib.hid (HM.out.later hb)
  replace HN := Lib.hid (HN.out.later hb)
  clear hb
  obtain ⟨F, hF⟩ : ∃ F, fewL l = F := ⟨_, rfl⟩
  rw [hF]
  clear hF
  cases F with
  | false =>
    go_wp2
    go_ret
    exact ⟨rfl, HM.out.below⟩
  | true =>
  have m0 := HM.out.c0
  have n0 : x2.cell? ⟨w.heap.size + 1, 0, none⟩ = some (.int .i64 n.f) := HN.out.cell 0
  by_cases hmn : m.f = n.f
  · rw [hmn] at m0
    clear hmn
    go_wp2
    go_ret
    exact ⟨rfl, HM.out.below⟩
  have hmb : (m.f == n.f) = false := by simpa using hmn
  have HNE := Lib.hid hmn
  clear hmn
  have m1 := HM.out.c1
  have m2 := HM.out.c2
  go_wp2_with fail
  clear m0 m1 m2 n0 hmb
  refine (Receive_any o cap l m _ (HR.out.later HM.out.below) hl).mono ?_
  rintro e x3 ⟨hb, oa, ox, ca, cx, rfl, hx, hy⟩
  replace HM := Lib.hid (HM.out.later hb)
  replace HN := Lib.hid (HN.out.later hb)
  have Ha := Lib.hid hx
  have Hx := Lib.hid hy
  clear hb hx hy
  have hla := outL_le l m
  have hlx := outM_le l m
  obtain ⟨La, hLa⟩ : ∃ L, outL l m = L := ⟨_, rfl⟩
  obtain ⟨Mx, hMx⟩ : ∃ L, outM l m = L := ⟨_, rfl⟩
  obtain ⟨E1, hE1⟩ : ∃ E, recvE l m = E := ⟨_, rfl⟩
  rw [hLa] at Ha hla
  rw [hMx] at Hx hlx
  rw [hLa, hMx, hE1]
  have HLa := Lib.hid hLa
  have HMx := Lib.hid hMx
  have HE1 := Lib.hid hE1
  clear hLa hMx hE1
  have n0 : x3.cell? ⟨w.heap.size + 1, 0, none⟩ = some (.int .i64 n.f) := HN.out.cell 0
  have n1 : x3.cell? ⟨w.heap.size + 1, 1, none⟩ = some (.int .i64 n.n) := HN.out.cell 1
  have n2 : x3.cell? ⟨w.heap.size + 1, 2, none⟩ = some (.int .i64 n.b) := HN.out.cell 2
  go_wp2_with fail
  clear n0 n1 n2
  refine (Receive_any oa ca La n _ Ha.out hla).mono ?_
  rintro e x4 ⟨hb, ob, oy, cb, cy, rfl, hx, hy⟩
  replace HM := Lib.hid (HM.out.later hb)
  replace HN := Lib.hid (HN.out.later hb)
  replace Ha := Lib.hid (Ha.out.later hb)
  replace Hx := Lib.hid (Hx.out.later hb)
  have Hb := Lib.hid hx
  have Hy := Lib.hid hy
  clear hb hx hy
  have hlb := outL_le La n
  have hly := outM_le La n
  obtain ⟨Lb, hLb⟩ : ∃ L, outL La n = L := ⟨_, rfl⟩
  obtain ⟨My, hMy⟩ : ∃ L, outM La n = L := ⟨_, rfl⟩
  obtain ⟨E2, hE2⟩ : ∃ E, recvE La n = E := ⟨_, rfl⟩
  rw [hLb] at Hb hlb
  rw [hMy] at Hy hly
  rw [hLb, hMy, hE2]
  have HLb := Lib.hid hLb
  have HMy := Lib.hid hMy
  have HE2 := Lib.hid hE2
  clear hLb hMy hE2
  have n0 : x4.cell? ⟨w.heap.size + 1, 0, none⟩ = some (.int .i64 n.f) := HN.out.cell 0
  have n1 : x4.cell? ⟨w.heap.size + 1, 1, none⟩ = some (.int .i64 n.n) := HN.out.cell 1
  have n2 : x4.cell? ⟨w.heap.size + 1, 2, none⟩ = some (.int .i64 n.b) := HN.out.cell 2
  go_wp2_with fail
  clear n0 n1 n2
  refine (Receive_any o cap l n _ (HR.out.later HM.out.below) hl).mono ?_
  rintro e x5 ⟨hb, oc, oz, cc, cz, rfl, hx, hy⟩
  replace HM := Lib.hid (HM.out.later hb)
  replace HN := Lib.hid (HN.out.later hb)
  replace Ha := Lib.hid (Ha.out.later hb)
  replace Hx := Lib.hid (Hx.out.later hb)
  replace Hb := Lib.hid (Hb.out.later hb)
  replace Hy := Lib.hid (Hy.out.later hb)
  have Hc := Lib.hid hx
  have Hz := Lib.hid hy
  clear hb hx hy
  have hlc := outL_le l n
  have hlz := outM_le l n
  obtain ⟨Lc, hLc⟩ : ∃ L, outL l n = L := ⟨_, rfl⟩
  obtain ⟨Mz, hMz⟩ : ∃ L, outM l n = L := ⟨_, rfl⟩
  obtain ⟨E3, hE3⟩ : ∃ E, recvE l n = E := ⟨_, rfl⟩
  rw [hLc] at Hc hlc
  rw [hMz] at Hz hlz
  rw [hLc, hMz, hE3]
  have HLc := Lib.hid hLc
  have HMz := Lib.hid hMz
  have HE3 := Lib.hid hE3
  clear hLc hMz hE3
  have m0 := HM.out.c0
  have m1 := HM.out.c1
  have m2 := HM.out.c2
  go_wp2_with fail
  clear m0 m1 m2
  refine (Receive_any oc cc Lc m _ Hc.out hlc).mono ?_
  rintro e x6 ⟨hb, od, ov, cd, cv, rfl, hx, hy⟩
  replace HM := Lib.hid (HM.out.later hb)
  replace HN := Lib.hid (HN.out.later hb)
  replace Ha := Lib.hid (Ha.out.later hb)
  replace Hx := Lib.hid (Hx.out.later hb)
  replace Hb := Lib.hid (Hb.out.later hb)
  replace Hy := Lib.hid (Hy.out.later hb)
  replace Hc := Lib.hid (Hc.out.later hb)
  replace Hz := Lib.hid (Hz.out.later hb)
  have Hd := Lib.hid hx
  have Hv := Lib.hid hy
  clear hb hx hy
  have hld := outL_le Lc m
  have hlv := outM_le Lc m
  obtain ⟨Ld, hLd⟩ : ∃ L, outL Lc m = L := ⟨_, rfl⟩
  obtain ⟨Mv, hMv⟩ : ∃ L, outM Lc m = L := ⟨_, rfl⟩
  obtain ⟨E4, hE4⟩ : ∃ E, recvE Lc m = E := ⟨_, rfl⟩
  rw [hLd] at Hd hld
  rw [hMv] at Hv hlv
  rw [hLd, hMv, hE4]
  have HLd := Lib.hid hLd
  have HMv := Lib.hid hMv
  have HE4 := Lib.hid hE4
  clear hLd hMv hE4
  by_cases h0 : E1 = 0
  rotate_left
  · have hb0 : (E1 != 0) = true := by simpa using h0
    clear h0
    go_wp2
    go_ret
    exact ⟨rfl, HM.out.below⟩
  subst h0
  by_cases h1 : E2 = 0
  rotate_left
  · have hb1 : (E2 != 0) = true := by simpa using h1
    clear h1
    go_wp2
    go_ret
    exact ⟨rfl, HM.out.below⟩
  subst h1
  by_cases h2 : E3 = 0
  rotate_left
  · have hb2 : (E3 != 0) = true := by simpa using h2
    clear h2
    go_wp2
    go_ret
    exact ⟨rfl, HM.out.below⟩
  subst h2
  by_cases h3 : E4 = 0
  rotate_left
  · have hb3 : (E4 != 0) = true := by simpa using h3
    clear h3
    go_wp2
    go_ret
    exact ⟨rfl, HM.out.below⟩
  subst h3
  have HLa2 := Lib.hid (show La = recvL l m by rw [← HLa.out, outL_zero HE1.out])
  have HLc2 := Lib.hid (show Lc = recvL l n by rw [← HLc.out, outL_zero HE3.out])
  have HE2b := Lib.hid (show recvE (recvL l m) n = 0 by rw [← HLa2.out]; exact HE2.out)
  have HE4b := Lib.hid (show recvE (recvL l n) m = 0 by rw [← HLc2.out]; exact HE4.out)
  have HT := Lib.hid (took_two HNE.out HE1.out HE2b.out HE3.out HE4b.out)
  obtain rfl : Lb = Ld := by rw [← HLb.out, ← HLd.out, outL_zero HE2.out, outL_zero HE4.out, HLa2.out, HLc2.out]; exact HT.out.1
  obtain rfl : Mx = Mv := by rw [← HMx.out, ← HMv.out, outM_zero HE1.out, outM_zero HE4.out, HLc2.out]; exact HT.out.2.1
  obtain rfl : My = Mz := by rw [← HMy.out, ← HMz.out, outM_zero HE2.out, outM_zero HE3.out, HLa2.out]; exact HT.out.2.2
  go_wp2_with fail
  refine (sameB_at ob od cb cd _ _ Lb _ Hb.out Hd.out (by omega) rfl rfl).mono ?_
  rintro e x7 ⟨rfl, hb⟩
  replace HM := Lib.hid (HM.out.later hb)
  replace HN := Lib.hid (HN.out.later hb)
  replace Ha := Lib.hid (Ha.out.later hb)
  replace Hx := Lib.hid (Hx.out.later hb)
  replace Hb := Lib.hid (Hb.out.later hb)
  replace Hy := Lib.hid (Hy.out.later hb)
  replace Hc := Lib.hid (Hc.out.later hb)
  replace Hz := Lib.hid (Hz.out.later hb)
  replace Hd := Lib.hid (Hd.out.later hb)
  replace Hv := Lib.hid (Hv.out.later hb)
  clear hb
  go_wp2_with fail
  refine (sameM_at ox ov cx cv _ _ Mx _ Hx.out Hv.out (by omega) rfl rfl).mono ?_
  rintro e x8 ⟨rfl, hb⟩
  replace HM := Lib.hid (HM.out.later hb)
  replace HN := Lib.hid (HN.out.later hb)
  replace Ha := Lib.hid (Ha.out.later hb)
  replace Hx := Lib.hid (Hx.out.later hb)
  replace Hb := Lib.hid (Hb.out.later hb)
  replace Hy := Lib.hid (Hy.out.later hb)
  replace Hc := Lib.hid (Hc.out.later hb)
  replace Hz := Lib.hid (Hz.out.later hb)
  replace Hd := Lib.hid (Hd.out.later hb)
  replace Hv := Lib.hid (Hv.out.later hb)
  clear hb
  go_wp2_with fail
  refine (sameM_at oy oz cy cz _ _ My _ Hy.out Hz.out (by omega) rfl rfl).mono ?_
  rintro e x9 ⟨rfl, hb⟩
  replace HM := Lib.hid (HM.out.later hb)
  replace HN := Lib.hid (HN.out.later hb)
  replace Ha := Lib.hid (Ha.out.later hb)
  replace Hx := Lib.hid (Hx.out.later hb)
  replace Hb := Lib.hid (Hb.out.later hb)
  replace Hy := Lib.hid (Hy.out.later hb)
  replace Hc := Lib.hid (Hc.out.later hb)
  replace Hz := Lib.hid (Hz.out.later hb)
  replace Hd := Lib.hid (Hd.out.later hb)
  replace Hv := Lib.hid (Hv.out.later hb)
  clear hb
  go_wp2
  go_ret
  exact ⟨rfl, HM.out.below⟩
end Go.Proofs.Ytehpdjlidmhkmaa
