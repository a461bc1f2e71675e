/- Chapter 39 in plain Lean: how the reference parts the messages. No statement about the program. -/
import Derived.Test.YtehpdjlidmhkmaaPlainC39
namespace Go.Proofs.Ytehpdjlidmhkmaa

def outL (l : List Bx) (m : Msg) : List Bx := if recvE l m = 0 then recvL l m else []
def outM (l : List Bx) (m : Msg) : List Msg := if recvE l m = 0 then overOf l m else []

def spl : Int → List Msg → List Msg × List Msg × Int
  | n, [] => ([], [], n)
  | n, w :: ws => if w.n = n then (w :: (spl (n + 1) ws).1, (spl (n + 1) ws).2.1, (spl (n + 1) ws).2.2) else ((spl n ws).1, w :: (spl n ws).2.1, (spl n ws).2.2)
theorem spl_none : ∀ {l : List Msg} {n : Int}, (∀ a ∈ l, n < a.n) → spl n l = ([], l, n)
  | [], _, _ => rfl
  | w :: ws, n, h => by
    have h1 := h w (List.mem_cons_self ..)
    have ih := spl_none (l := ws) (fun a ha => h a (List.mem_cons_of_mem _ ha))
    rw [spl, if_neg (by omega), ih]
theorem waits_gt {f p : Int} {ws : List Msg} (h : waitsOk f p ws = true) : ∀ a ∈ ws, p < a.n := fun a ha => (nums_pair h).2 a.n (List.mem_map.2 ⟨a, ha, rfl⟩)
theorem spl_run {f : Int} : ∀ {ws : List Msg} {n : Int}, waitsOk f n ws = true → spl (n + 1) ws = (runOf (n + 1) ws, ws.drop (runOf (n + 1) ws).length, n + 1 + (runOf (n + 1) ws).length)
  | [], n, _ => by simp [spl, runOf]
  | w :: ws, n, h => by
    have h' := h
    rw [waitsOk_cons] at h'
    by_cases he : w.n = n + 1
    · have hw := h'.2.2.2
      rw [he] at hw
      rw [spl, if_pos he, runOf, if_pos he, spl_run hw]
      simp only [List.length_cons, List.drop_succ_cons]
      congr 2
      omega
    · have hg : ∀ a ∈ w :: ws, n + 1 < a.n := fun a ha => by
        rcases List.mem_cons.1 ha with rfl | ha
        · have := h'.2.2.1
          omega
        · have := waits_gt h'.2.2.2 a ha
          have := h'.2.2.1
          omega
      rw [spl_none hg, runOf, if_neg he]
      simp
theorem insM_first {f : Int} {ws : List Msg} {m : Msg} (h : waitsOk f m.n ws = true) : insM ws m = m :: ws := by
  cases ws with
  | nil => rfl
  | cons w ws =>
    rw [waitsOk_cons] at h
    rw [insM, if_pos h.2.2.1]
theorem spl_eq {f : Int} {b : Bx} {m : Msg} (hb : waitsOk f b.x b.ws = true) (hm : validM m = true) (hf : m.f = f) (hg : b.x ≤ m.n) (hn : hasN b.ws m.n = false) : spl b.x (insM b.ws m) = (ov b m, (nb b m).ws, (nb b m).x) := by
  unfold ov nb
  by_cases hx : b.x < m.n
  · rw [if_pos hx, if_pos hx, spl_none (waits_gt (ins_ok hm hf hb hx hn))]
  · rw [if_neg hx, if_neg hx]
    have e : m.n = b.x := by omega
    have hw : waitsOk f m.n b.ws = true := by rw [e]; exact hb
    rw [insM_first hw, spl, if_pos e, ← e, spl_run hw]
theorem spl_cons_eq {n : Int} {w : Msg} {ws : List Msg} (h : w.n = n) : spl n (w :: ws) = (w :: (spl (n + 1) ws).1, (spl (n + 1) ws).2.1, (spl (n + 1) ws).2.2) := by rw [spl, if_pos h]
theorem spl_cons_ne {n : Int} {w : Msg} {ws : List Msg} (h : ¬ w.n = n) : spl n (w :: ws) = ((spl n ws).1, w :: (spl n ws).2.1, (spl n ws).2.2) := by rw [spl, if_neg h]
/-- How far the parting has come. -/
def SplAt (R : List Msg × List Msg × Int) (ov ws : List Msg) (q : Int) (rest : List Msg) : Prop := R = (ov ++ (spl q rest).1, ws ++ (spl q rest).2.1, (spl q rest).2.2)
theorem SplAt.take {R : List Msg × List Msg × Int} {ov ws : List Msg} {q : Int} {w : Msg} {rest : List Msg} (h : SplAt R ov ws q (w :: rest)) (he : w.n = q) : SplAt R (ov ++ [w]) ws (q + 1) rest := by
  unfold SplAt at h ⊢
  rw [h, spl_cons_eq he]
  simp
theorem SplAt.keep {R : List Msg × List Msg × Int} {ov ws : List Msg} {q : Int} {w : Msg} {rest : List Msg} (h : SplAt R ov ws q (w :: rest)) (he : ¬ w.n = q) : SplAt R ov (ws ++ [w]) q rest := by
  unfold SplAt at h ⊢
  rw [h, spl_cons_ne he]
  simp
theorem SplAt.done {R : List Msg × List Msg × Int} {ov ws : List Msg} {q : Int} (h : SplAt R ov ws q []) : R = (ov, ws, q) := by
  unfold SplAt at h
  rw [h]
  simp [spl]
theorem ws_le {l : List Bx} {f : Int} : (ofF l f).ws.length ≤ many l := by
  induction l with
  | nil => simp [ofF]
  | cons x xs ih =>
    rw [ofF, many_cons]
    split
    · omega
    · omega
end Go.Proofs.Ytehpdjlidmhkmaa
