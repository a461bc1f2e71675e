/- Chapter 22 in plain Lean: what follows from the fairest: nothing is left, equals, more room, other names. No statement about the program. -/
import Derived.Test.YtjaeekikddbbeaaPlain22
namespace Go.Proofs.Ytjaeekikddbbeaa

section
variable {rows : List Rw} {most order : List Int}
theorem fit_nonneg {x : List Int} (ho : isOrd order (most.length : Nat) = true) (h : Fit rows most x) : ∀ k ∈ order, 0 ≤ atI x k := fun k hk => by
  have := (isOrd_iff.1 ho).2.1 k hk
  exact (h.lim k this.1 this.2).1

/-- Each member has its limit, or is in a row that is full. -/
theorem share_left (h : VL rows most) (ho : isOrd order (most.length : Nat) = true) {m : Int} (hm : 0 ≤ m ∧ m < most.length) (h1 : atI (shareF rows most order) m ≠ atI most m) : ∃ r ∈ rows, m ∈ r.ms ∧ sumR r (shareF rows most order) = r.c := by
  have hx := share_fit h ho
  have hmx : 0 ≤ m ∧ m < ((shareF rows most order).length : Int) := by rw [hx.len]; exact hm
  by_cases hc : can rows most (shareF rows most order) m = true
  · exfalso
    have hy := inc_fit hx hm hc
    have hself : atI (inc (shareF rows most order) m) m = atI (shareF rows most order) m + 1 := by rw [inc_at hmx hm.1, if_pos rfl]
    rcases share_fair ho hy with he | ⟨p, k, s, hos, hk, _, _⟩
    · have := congrArg (fun z => atI z m) he
      omega
    · have hkb := (isOrd_iff.1 ho).2.1 k (by rw [hos]; simp)
      rw [inc_at hmx hkb.1] at hk
      split at hk
      · rename_i e
        subst e
        omega
      · omega
  · have hne : ¬ ∀ r ∈ rows, m ∈ r.ms → sumR r (shareF rows most order) ≠ r.c := fun h' => hc (can_spec.2 ⟨h1, h'⟩)
    apply Classical.byContradiction
    intro hno
    apply hne
    intro r hr hmr e
    exact hno ⟨r, hr, hmr, e⟩

/-- Two numbers are others. -/
theorem atI_two {x : List Int} {i k a b : Int} (hi : 0 ≤ i ∧ i < (x.length : Int)) (hk : 0 ≤ k ∧ k < (x.length : Int)) (_hik : i ≠ k) {m : Int} (hm : 0 ≤ m) : atI ((x.set i.toNat a).set k.toNat b) m = if m = k then b else if m = i then a else atI x m := by
  rw [atI_set (by simpa using hk) hm, atI_set hi hm]
theorem sum_two {f g : Int → Int} {i k a b : Int} (hik : i ≠ k) {l : List Int} (hn : l.Nodup) (h : ∀ m ∈ l, m ≠ i → m ≠ k → g m = f m) (hi : g i = f i + a) (hk : g k = f k + b) : (l.map g).sum = (l.map f).sum + (if i ∈ l then a else 0) + if k ∈ l then b else 0 := by
  have h1 := sum_one (f := f) (g := fun m => if m = i then g i else f m) (a := i) (d := a) hn (fun m _ hne => if_neg hne) (by simpa using hi)
  have h2 := sum_one (f := fun m => if m = i then g i else f m) (g := g) (a := k) (d := b) hn (fun m hm hne => by
    by_cases e : m = i
    · subst e
      simp
    · rw [if_neg e]
      exact h m hm e hne) (by rw [if_neg (fun e => hik e.symm)]; exact hk)
  rw [h2, h1]
theorem share_pair (h : VL rows most) (ho : isOrd order (most.length : Nat) = true) {i k : Int} (hi : 0 ≤ i ∧ i < most.length) (hk : 0 ≤ k ∧ k < most.length) {p s : List Int} (hos : order = p ++ i :: s) (hks : k ∉ p) (hm : atI most i = atI most k) (hr : ∀ r ∈ rows, (i ∈ r.ms ↔ k ∈ r.ms)) :
    atI (shareF rows most order) i = atI (shareF rows most order) k ∨ atI (shareF rows most order) i = atI (shareF rows most order) k + 1 := by
  have hx := share_fit h ho
  generalize hX : shareF rows most order = X at hx ⊢
  by_cases hik : i = k
  · subst hik
    exact .inl rfl
  have hiX : 0 ≤ i ∧ i < (X.length : Int) := by rw [hx.len]; exact hi
  have hkX : 0 ≤ k ∧ k < (X.length : Int) := by rw [hx.len]; exact hk
  have li := hx.lim i hi.1 hi.2
  have lk := hx.lim k hk.1 hk.2
  -- numbers with a at i and b at k whose sum is the same are permitted
  have key : ∀ a b : Int, a + b = atI X i + atI X k → 0 ≤ a → a ≤ atI most i → 0 ≤ b → b ≤ atI most k → Fit rows most ((X.set i.toNat a).set k.toNat b) := fun a b hab ha1 ha2 hb1 hb2 => by
    refine ⟨h, by simp [hx.len], fun m hm1 hm2 => ?_, fun r hrr => ?_⟩
    · rw [atI_two hiX hkX hik hm1]
      split
      · rename_i e; subst e; exact ⟨hb1, hb2⟩
      · split
        · rename_i e; subst e; exact ⟨ha1, ha2⟩
        · exact hx.lim m hm1 hm2
    · have hrow := h.row r hrr
      have e := sum_two (f := atI X) (g := atI ((X.set i.toNat a).set k.toNat b)) (i := i) (k := k) (a := a - atI X i) (b := b - atI X k) hik (Rw.nodup hrow.2.2) (fun m hm hne1 hne2 => by
        rw [atI_two hiX hkX hik (hrow.2.1 m hm).1, if_neg hne2, if_neg hne1]) (by rw [atI_two hiX hkX hik hi.1, if_neg hik, if_pos rfl]; omega) (by rw [atI_two hiX hkX hik hk.1, if_pos rfl]; omega)
      have hs := hx.sum r hrr
      unfold sumR at hs ⊢
      rw [e]
      by_cases hir : i ∈ r.ms
      · have hkr := (hr r hrr).1 hir
        rw [if_pos hir, if_pos hkr]
        omega
      · have hkr : k ∉ r.ms := fun h' => hir ((hr r hrr).2 h')
        rw [if_neg hir, if_neg hkr]
        omega
  have hnd := (isOrd_iff.1 ho).2.2
  have hkin : k ∈ s := by
    have := ord_mem ho k hk.1 hk.2
    rw [hos, List.mem_append] at this
    rcases this with h' | h'
    · exact absurd h' hks
    · exact (List.mem_cons.1 h').resolve_left (fun e => hik e.symm)
  rcases Int.lt_or_le (atI X k + 1) (atI X i) with hlt | hge
  · exfalso
    have hy := key (atI X i - 1) (atI X k + 1) (by omega) (by omega) (by omega) (by omega) (by omega)
    rcases share_fair ho hy with he | ⟨p', m0, s', hos', h1, h2, h3⟩
    · rw [hX] at he
      have := congrArg (fun z => atI z i) he
      rw [atI_two hiX hkX hik hi.1, if_neg hik, if_pos rfl] at this
      omega
    · rw [hX] at h1 h2
      have hm0 := (isOrd_iff.1 ho).2.1 m0 (by rw [hos']; simp)
      have hk2 := h2 k (ord_mem ho k hk.1 hk.2)
      have hk3 : atI ((X.set i.toNat (atI X i - 1)).set k.toNat (atI X k + 1)) k = atI X k + 1 := by rw [atI_two hiX hkX hik hk.1, if_pos rfl]
      rw [hk3] at hk2
      have hk4 := hk2 (by omega)
      rw [atI_two hiX hkX hik hm0.1] at h1 hk4
      split at h1
      · rename_i e; subst e; omega
      · rename_i hmk
        rw [if_neg hmk] at hk4
        split at h1
        · rename_i e
          rw [if_pos e] at hk4
          omega
        · omega
  · rcases Int.lt_or_le (atI X i) (atI X k) with hlt | hge2
    · exfalso
      have hy := key (atI X k) (atI X i) (by omega) (by omega) (by omega) (by omega) (by omega)
      rcases share_fair ho hy with he | ⟨p', m0, s', hos', h1, h2, h3⟩
      · rw [hX] at he
        have := congrArg (fun z => atI z i) he
        rw [atI_two hiX hkX hik hi.1, if_neg hik, if_pos rfl] at this
        omega
      · rw [hX] at h1 h3
        have hm0 := (isOrd_iff.1 ho).2.1 m0 (by rw [hos']; simp)
        rw [atI_two hiX hkX hik hm0.1] at h1 h3
        by_cases hmk : m0 = k
        · subst hmk
          rw [if_pos rfl] at h1 h3
          -- i stands before m0
          have hip : i ∈ p' := by
            rw [hos] at hos'
            rcases List.append_eq_append_iff.1 hos' with ⟨t, h4, h5⟩ | ⟨t, h4, h5⟩
            · cases t with
              | nil =>
                simp at h5
                exact absurd h5.1 hik
              | cons a as =>
                simp only [List.cons_append, List.cons.injEq] at h5
                rw [h4, ← h5.1]
                simp
            · cases t with
              | nil =>
                simp at h5
                exact absurd h5.1.symm hik
              | cons a as =>
                simp only [List.cons_append, List.cons.injEq] at h5
                exact absurd (by rw [h4, ← h5.1]; simp) hks
          have h6 := h3 i hip
          have h7 : atI ((X.set i.toNat (atI X m0)).set m0.toNat (atI X i)) i = atI X m0 := by rw [atI_two hiX hkX hik hi.1, if_neg hik, if_pos rfl]
          rw [h7] at h6
          have := h6 (by omega)
          omega
        · rw [if_neg hmk] at h1
          split at h1
          · rename_i e; subst e; omega
          · omega
    · omega

/-- With more room what is shared is not less fair. -/
theorem share_room {rows' : List Rw} {most' : List Int} (h : VL rows most) (ho : isOrd order (most.length : Nat) = true) (h' : VL rows' most') (hl : most'.length = most.length)
    (hm : ∀ m : Int, 0 ≤ m → m < most.length → atI most m ≤ atI most' m) (hr : ∀ r' ∈ rows', ∃ r ∈ rows, r.ms = r'.ms ∧ r.c ≤ r'.c) : 0 ≤ bet (shareF rows' most' order) (shareF rows most order) order := by
  have hx := share_fit h ho
  have ho' : isOrd order (most'.length : Nat) = true := by rw [hl]; exact ho
  have hxw : Fit rows' most' (shareF rows most order) := by
    refine ⟨h', by rw [hx.len, hl], fun m h1 h2 => ?_, fun r' hr' => ?_⟩
    · rw [hl] at h2
      have e1 := hx.lim m h1 h2
      have e2 := hm m h1 h2
      omega
    · obtain ⟨r, hrr, e1, e2⟩ := hr r' hr'
      have := hx.sum r hrr
      unfold sumR at this ⊢
      rw [← e1]
      omega
  have hyw := share_fit h' ho'
  rcases share_fair ho' hxw with he | hf
  · rw [he, bet_self]
    decide
  · have hlen : (shareF rows' most' order).length = (shareF rows most order).length := by rw [hyw.len, hxw.len]
    rw [bet_fairer hlen (by rw [hyw.len]; exact ho') (fun k hk => ⟨fit_nonneg ho' hyw k hk, fit_nonneg ho' hxw k hk⟩) hf]
    decide
/-- What Better says of what is shared and other permitted numbers. -/
theorem share_better {y : List Int} (ho : isOrd order (most.length : Nat) = true) (hy : Fit rows most y) : bet (shareF rows most order) y order = 1 ∨ (bet (shareF rows most order) y order = 0 ∧ shareF rows most order = y) := by
  have hx := share_fit hy.vl ho
  rcases share_fair ho hy with he | hf
  · right
    rw [he]
    exact ⟨bet_self, rfl⟩
  · left
    exact bet_fairer (by rw [hx.len, hy.len]) (by rw [hx.len]; exact ho) (fun k hk => ⟨fit_nonneg ho hx k hk, fit_nonneg ho hy k hk⟩) hf
end

/-! ### Other names -/
section
variable {rows : List Rw} {most order : List Int}
def turnI (n : Nat) (l : List Int) : List Int := l.map (fun m => (n : Int) - 1 - m)
def turnR (n : Nat) (r : Rw) : Rw := ⟨r.c, (turnI n r.ms).reverse⟩
theorem rev_at {x : List Int} {m : Int} (h : 0 ≤ m ∧ m < (x.length : Int)) : atI x.reverse m = atI x ((x.length : Int) - 1 - m) := by
  unfold atI
  rw [List.getD_eq_getElem?_getD, List.getD_eq_getElem?_getD, List.getElem?_reverse (by omega)]
  congr 2
  omega
theorem sum_reverse (l : List Int) : l.reverse.sum = l.sum := by
  induction l with
  | nil => rfl
  | cons a as ih => simp [ih]; omega
theorem turn_sum {n : Nat} {r : Rw} {x : List Int} (hx : x.length = n) (hr : ∀ m ∈ r.ms, 0 ≤ m ∧ m < (n : Int)) : sumR (turnR n r) x.reverse = sumR r x := by
  unfold sumR turnR turnI
  simp only
  rw [List.map_reverse, sum_reverse, List.map_map]
  apply sum_congr
  intro m hm
  have := hr m hm
  simp only [Function.comp]
  rw [rev_at (by omega), hx]
  congr 1
  omega
theorem turnR_turn {n : Nat} {r : Rw} : turnR n (turnR n r) = r := by
  unfold turnR turnI
  simp only [List.map_reverse, List.reverse_reverse, List.map_map]
  have : ((fun m : Int => (n : Int) - 1 - m) ∘ fun m => (n : Int) - 1 - m) = id := by
    funext m
    simp only [Function.comp, id]
    omega
  rw [this, List.map_id]
theorem turn_vl (h : VL rows most) : VL (rows.map (turnR most.length)) most.reverse := by
  refine ⟨by simpa using h.n64, by simpa using h.r64, fun r' hr' => ?_, fun m hm => h.lim m (by simpa using hm)⟩
  obtain ⟨r, hr, rfl⟩ := List.mem_map.1 hr'
  have h1 := h.row r hr
  refine ⟨h1.1, fun m hm => ?_, ?_⟩
  · simp only [turnR, turnI, List.mem_reverse, List.mem_map] at hm
    obtain ⟨k, hk, rfl⟩ := hm
    have := h1.2.1 k hk
    rw [List.length_reverse]
    omega
  · simp only [turnR, turnI]
    rw [List.pairwise_reverse, List.pairwise_map]
    exact h1.2.2.imp (fun hab => by omega)
theorem turn_ord (ho : isOrd order (most.length : Nat) = true) : isOrd (turnI most.length order) (most.reverse.length : Nat) = true := by
  obtain ⟨h1, h2, h3⟩ := isOrd_iff.1 ho
  rw [List.length_reverse]
  refine isOrd_iff.2 ⟨by simpa [turnI] using h1, fun m hm => ?_, ?_⟩
  · simp only [turnI, List.mem_map] at hm
    obtain ⟨k, hk, rfl⟩ := hm
    have := h2 k hk
    omega
  · unfold turnI
    rw [List.nodup_iff_pairwise_ne] at h3 ⊢
    rw [List.pairwise_map]
    exact h3.imp (fun hab e => hab (by omega))
theorem turn_fit {x : List Int} (h : Fit rows most x) : Fit (rows.map (turnR most.length)) most.reverse x.reverse := by
  refine ⟨turn_vl h.vl, by simp [h.len], fun m h1 h2 => ?_, fun r' hr' => ?_⟩
  · rw [List.length_reverse] at h2
    rw [rev_at (by rw [h.len]; omega), rev_at (by omega), h.len]
    exact h.lim _ (by omega) (by omega)
  · obtain ⟨r, hr, rfl⟩ := List.mem_map.1 hr'
    rw [turn_sum h.len (h.vl.row r hr).2.1]
    exact h.sum r hr
theorem turn_fairer {n : Nat} {x y : List Int} (hx : x.length = n) (hy : y.length = n) (hb : ∀ m ∈ order, 0 ≤ m ∧ m < (n : Int)) (h : Fairer x.reverse y.reverse (turnI n order)) : Fairer x y order := by
  obtain ⟨p, m, s, ho, h1, h2, h3⟩ := h
  have hord : order = turnI n (turnI n order) := by
    unfold turnI
    rw [List.map_map]
    have : ((fun m : Int => (n : Int) - 1 - m) ∘ fun m => (n : Int) - 1 - m) = id := by
      funext m
      simp only [Function.comp, id]
      omega
    rw [this, List.map_id]
  have hmem : ∀ k ∈ turnI n order, 0 ≤ k ∧ k < (n : Int) := fun k hk => by
    simp only [turnI, List.mem_map] at hk
    obtain ⟨j, hj, rfl⟩ := hk
    have := hb j hj
    omega
  have hmb := hmem m (by rw [ho]; simp)
  have ex : ∀ k, 0 ≤ k ∧ k < (n : Int) → atI x.reverse k = atI x ((n : Int) - 1 - k) := fun k hk => by rw [rev_at (by rw [hx]; exact hk), hx]
  have ey : ∀ k, 0 ≤ k ∧ k < (n : Int) → atI y.reverse k = atI y ((n : Int) - 1 - k) := fun k hk => by rw [rev_at (by rw [hy]; exact hk), hy]
  rw [ex m hmb, ey m hmb] at h1
  have e2 : ∀ k, 0 ≤ k ∧ k < (n : Int) → atI x k = atI x.reverse ((n : Int) - 1 - k) ∧ atI y k = atI y.reverse ((n : Int) - 1 - k) := fun k hk => by
    rw [ex _ (by omega), ey _ (by omega), show (n : Int) - 1 - ((n : Int) - 1 - k) = k by omega]
    exact ⟨rfl, rfl⟩
  refine ⟨turnI n p, (n : Int) - 1 - m, turnI n s, ?_, h1, fun k hk hne => ?_, fun k hk hne => ?_⟩
  · rw [hord, ho]
    simp [turnI]
  · have hkb := hb k hk
    obtain ⟨a1, a2⟩ := e2 k hkb
    rw [a1, a2] at hne ⊢
    have := h2 ((n : Int) - 1 - k) (List.mem_map.2 ⟨k, hk, rfl⟩) hne
    rw [ey m hmb] at this
    exact this
  · simp only [turnI, List.mem_map] at hk
    obtain ⟨j, hj, rfl⟩ := hk
    have hjb := hmem j (by rw [ho]; simp [hj])
    rw [← ex j hjb, ← ey j hjb] at hne ⊢
    have := h3 j hj hne
    rw [ey m hmb] at this
    exact this
/-- Numbered the other way round. -/
theorem share_turn (h : VL rows most) (ho : isOrd order (most.length : Nat) = true) : shareF (rows.map (turnR most.length)) most.reverse (turnI most.length order) = (shareF rows most order).reverse := by
  have hx := share_fit h ho
  have ho2 := turn_ord ho
  have hy := share_fit (turn_vl h) ho2
  generalize hY : shareF (rows.map (turnR most.length)) most.reverse (turnI most.length order) = Y at hy ⊢
  have hyl : Y.length = most.length := by rw [hy.len, List.length_reverse]
  -- Y turned back is permitted
  have hyb : Fit rows most Y.reverse := by
    have := turn_fit hy
    rw [List.length_reverse, List.reverse_reverse, List.map_map] at this
    have e : (turnR most.length ∘ turnR most.length) = id := by
      funext r
      simp only [Function.comp, id]
      exact turnR_turn
    rwa [e, List.map_id] at this
  rcases share_fair ho2 (turn_fit hx) with he | hf
  · rw [hY] at he
    exact he
  · rcases share_fair ho hyb with he | hf2
    · rw [he, List.reverse_reverse]
    · exfalso
      rw [hY] at hf
      have hb := (isOrd_iff.1 ho).2.1
      have := turn_fairer (n := most.length) (x := Y.reverse) (y := shareF rows most order) (by simp [hyl]) hx.len hb (by rw [List.reverse_reverse]; exact hf)
      exact fairer_asymm hf2 this
end
end Go.Proofs.Ytjaeekikddbbeaa
