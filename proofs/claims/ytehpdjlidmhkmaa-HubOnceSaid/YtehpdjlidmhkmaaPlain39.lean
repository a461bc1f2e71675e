/- Chapter 39 in plain Lean: messages, inboxes, what is valid, how many wait. No statement about the program. -/
import Derived.Below
namespace Go.Proofs.Ytehpdjlidmhkmaa

structure Msg where
  f : Int
  n : Int
  b : Int
deriving DecidableEq

structure Bx where
  f : Int
  x : Int
  ws : List Msg
deriving DecidableEq

def Msg.zero : Msg := ⟨0, 0, 0⟩
def Bx.zero : Bx := ⟨0, 0, []⟩
def getM (l : List Msg) (i : Nat) : Msg := l.getD i Msg.zero
def getB (l : List Bx) (i : Nat) : Bx := l.getD i Bx.zero

def validM (m : Msg) : Bool := decide ((0 ≤ m.f ∧ m.f ≤ 1000000) ∧ (1 ≤ m.n ∧ m.n ≤ 1000000) ∧ (0 ≤ m.b ∧ m.b ≤ 1000000000))
/-- The messages of a sender, whose numbers increase from above a number on. -/
def waitsOk (f : Int) : Int → List Msg → Bool
  | _, [] => true
  | b, m :: ms => validM m && decide (m.f = f) && decide (b < m.n) && waitsOk f m.n ms
def validB (b : Bx) : Bool := decide ((0 ≤ b.f ∧ b.f ≤ 1000000) ∧ (1 ≤ b.x ∧ b.x ≤ 1000001)) && waitsOk b.f b.x b.ws
def many (l : List Bx) : Nat := (l.map (·.ws.length)).sum
def fromsOk : Int → List Bx → Bool
  | _, [] => true
  | p, b :: bs => decide (p < b.f) && validB b && fromsOk b.f bs
def validL (l : List Bx) : Bool := decide (l.length ≤ 64) && decide (many l ≤ 64) && fromsOk (-1) l

theorem many_nil : many [] = 0 := rfl
theorem many_cons (b : Bx) (l : List Bx) : many (b :: l) = b.ws.length + many l := by simp [many]
theorem many_append (l l' : List Bx) : many (l ++ l') = many l + many l' := by simp [many]

/-! ### The search -/
/-- The first place in ks, from lo to hi, found by halves. -/
def bs (ks : List Int) (n : Int) (lo hi : Nat) : Nat :=
  if h : lo < hi then
    if ks.getD (lo + (hi - lo) / 2) 0 < n then bs ks n (lo + (hi - lo) / 2 + 1) hi else bs ks n lo (lo + (hi - lo) / 2)
  else lo
termination_by hi - lo

theorem bs_le {ks : List Int} {n : Int} : ∀ (d lo hi : Nat), hi - lo ≤ d → lo ≤ hi → lo ≤ bs ks n lo hi ∧ bs ks n lo hi ≤ hi := by
  intro d
  induction d with
  | zero =>
    intro lo hi hd hl
    rw [bs, dif_neg (by omega)]
    omega
  | succ d ih =>
    intro lo hi hd hl
    rw [bs]
    split
    · split
      · have := ih (lo + (hi - lo) / 2 + 1) hi (by omega) (by omega)
        omega
      · have := ih lo (lo + (hi - lo) / 2) (by omega) (by omega)
        omega
    · omega

/-- On an increasing list: what lies before is less, what lies behind is not. -/
theorem bs_cut {ks : List Int} {n : Int} (hs : ks.Pairwise (· < ·)) : ∀ (d lo hi : Nat), hi - lo ≤ d → lo ≤ hi → hi ≤ ks.length →
    (∀ i, i < lo → ks.getD i 0 < n) → (∀ i, hi ≤ i → i < ks.length → n ≤ ks.getD i 0) →
    (∀ i, i < bs ks n lo hi → ks.getD i 0 < n) ∧ (∀ i, bs ks n lo hi ≤ i → i < ks.length → n ≤ ks.getD i 0) := by
  have mono : ∀ i j, i < j → j < ks.length → ks.getD i 0 < ks.getD j 0 := fun i j hij hj => by
    have := List.pairwise_iff_getElem.1 hs i j (by omega) hj hij
    simpa [show i < ks.length by omega, hj] using this
  intro d
  induction d with
  | zero =>
    intro lo hi hd hl hh h1 h2
    rw [bs, dif_neg (by omega)]
    exact ⟨h1, fun i hi' => h2 i (by omega)⟩
  | succ d ih =>
    intro lo hi hd hl hh h1 h2
    rw [bs]
    split
    · split
      · rename_i hlt
        refine ih (lo + (hi - lo) / 2 + 1) hi (by omega) (by omega) hh (fun i hi' => ?_) h2
        rcases Nat.lt_or_eq_of_le (Nat.le_of_lt_succ hi') with h | rfl
        · have := mono i (lo + (hi - lo) / 2) h (by omega)
          omega
        · exact hlt
      · rename_i hge
        refine ih lo (lo + (hi - lo) / 2) (by omega) (by omega) (by omega) h1 (fun i hi' hi2 => ?_)
        rcases Nat.lt_or_eq_of_le hi' with h | rfl
        · have := mono (lo + (hi - lo) / 2) i h hi2
          omega
        · omega
    · exact ⟨h1, fun i hi' => h2 i (by omega)⟩

/-! ### What Receive answers -/
def froms (l : List Bx) : List Int := l.map (·.f)
def nums (l : List Msg) : List Int := l.map (·.n)
def atF (l : List Bx) (f : Int) : Nat := bs (froms l) f 0 l.length
def knownF (l : List Bx) (f : Int) : Bool := decide (atF l f < l.length ∧ (froms l).getD (atF l f) 0 = f)
def atN (l : List Msg) (n : Int) : Nat := bs (nums l) n 0 l.length
def knownN (l : List Msg) (n : Int) : Bool := decide (atN l n < l.length ∧ (nums l).getD (atN l n) 0 = n)
def boxOf (l : List Bx) (f : Int) : Bx := if knownF l f then getB l (atF l f) else ⟨f, 1, []⟩
/-- Of the messages that wait, those that follow a number without a gap. -/
def runOf : Int → List Msg → List Msg
  | _, [] => []
  | n, m :: ms => if m.n = n then m :: runOf (n + 1) ms else []
def recvE (l : List Bx) (m : Msg) : Int :=
  if (validL l && validM m) = false then 1
  else if m.n < (boxOf l m.f).x ∨ knownN (boxOf l m.f).ws m.n = true then 12
  else if knownF l m.f = false ∧ l.length = 64 then 2
  else if (boxOf l m.f).x < m.n ∧ many l = 64 then 10 else 0
def overOf (l : List Bx) (m : Msg) : List Msg := if (boxOf l m.f).x < m.n then [] else m :: runOf (m.n + 1) (boxOf l m.f).ws
def newBox (l : List Bx) (m : Msg) : Bx :=
  if (boxOf l m.f).x < m.n then ⟨m.f, (boxOf l m.f).x, (boxOf l m.f).ws.take (atN (boxOf l m.f).ws m.n) ++ m :: (boxOf l m.f).ws.drop (atN (boxOf l m.f).ws m.n)⟩
  else ⟨m.f, (boxOf l m.f).x + (overOf l m).length, (boxOf l m.f).ws.drop ((overOf l m).length - 1)⟩
def recvL (l : List Bx) (m : Msg) : List Bx :=
  if knownF l m.f then l.set (atF l m.f) (newBox l m) else l.take (atF l m.f) ++ newBox l m :: l.drop (atF l m.f)

end Go.Proofs.Ytehpdjlidmhkmaa
