/- Chapter 41 in plain Lean: records, their signatures, and which party is named. No statement about the program. -/
import Derived.Test.YtddbobphmakmmaaPlainC40
namespace Go.Proofs.Ytddbobphmakmmaa

structure Rc where
  se : Int
  ch : Int
  ca : Int
  ho : Int
  hs : Int
  fi : Int
  la : Int
  en : Int
  am : Int
  g0 : Nat
  g1 : Nat
  g2 : Nat
  g3 : Nat
deriving DecidableEq

/-- Four keys, or four signatures. -/
structure K4 where
  k0 : Nat
  k1 : Nat
  k2 : Nat
  k3 : Nat
  h0 : k0 < 18446744073709551616
  h1 : k1 < 18446744073709551616
  h2 : k2 < 18446744073709551616
  h3 : k3 < 18446744073709551616

def rd4 (a b c d : Int) : Rd := ⟨a, b, c, d, 0, by decide⟩
def sig (r : Rc) (k : Nat) : Nat := link (link (link k (rd4 r.se r.ch r.ca r.ho)) (rd4 r.hs r.fi r.la r.en)) (rd4 r.am 0 0 0)
theorem sig_lt {r : Rc} {k : Nat} (h : k < 18446744073709551616) : sig r k < 18446744073709551616 := link_lt (link_lt (link_lt h))

def validC (r : Rc) : Bool := decide ((1 ≤ r.se ∧ r.se ≤ 1000000) ∧ (1 ≤ r.ca ∧ r.ca ≤ 1000000) ∧ (0 ≤ r.ch ∧ r.ch ≤ 15) ∧ (0 ≤ r.ho ∧ r.ho ≤ 7) ∧ (0 ≤ r.hs ∧ r.hs ≤ 7) ∧ (1 ≤ r.fi ∧ r.fi ≤ r.la) ∧ r.la ≤ 64 ∧ (0 ≤ r.en ∧ r.en ≤ 64000000000) ∧ (0 ≤ r.am ∧ r.am ≤ 1000000000))

def chkC (r : Rc) (k : K4) : Int :=
  if validC r = false then 0 else if r.g0 ≠ sig r k.k0 then 0 else if r.g1 ≠ sig r k.k1 then 1 else if r.g2 ≠ sig r k.k2 then 2 else if r.g3 ≠ sig r k.k3 then 3 else -1

theorem chkC_ok {r : Rc} {k : K4} (h : chkC r k = -1) : validC r = true ∧ r.g0 = sig r k.k0 ∧ r.g1 = sig r k.k1 ∧ r.g2 = sig r k.k2 ∧ r.g3 = sig r k.k3 := by
  unfold chkC at h
  split at h
  · cases h
  rename_i hv
  split at h
  · cases h
  rename_i h0
  split at h
  · cases h
  rename_i h1
  split at h
  · cases h
  rename_i h2
  split at h
  · cases h
  rename_i h3
  exact ⟨by simpa using hv, by simpa using h0, by simpa using h1, by simpa using h2, by simpa using h3⟩

theorem sig_inj {r : Rc} {k k' : Nat} (h : k < 18446744073709551616) (h' : k' < 18446744073709551616) (e : sig r k = sig r k') : k = k' :=
  link_inj h h' (link_inj (link_lt h) (link_lt h') (link_inj (link_lt (link_lt h)) (link_lt (link_lt h')) e))

/-- One of the nine numbers is changed in one byte. -/
def Off (r c : Rc) (q y : Nat) : Prop :=
  NumOff (rd4 r.se r.ch r.ca r.ho) (rd4 c.se c.ch c.ca c.ho) q y ∧ c.hs = r.hs ∧ c.fi = r.fi ∧ c.la = r.la ∧ c.en = r.en ∧ c.am = r.am ∨
  (c.se = r.se ∧ c.ch = r.ch ∧ c.ca = r.ca ∧ c.ho = r.ho) ∧ NumOff (rd4 r.hs r.fi r.la r.en) (rd4 c.hs c.fi c.la c.en) q y ∧ c.am = r.am ∨
  (c.se = r.se ∧ c.ch = r.ch ∧ c.ca = r.ca ∧ c.ho = r.ho) ∧ (c.hs = r.hs ∧ c.fi = r.fi ∧ c.la = r.la ∧ c.en = r.en) ∧ NumOff (rd4 r.am 0 0 0) (rd4 c.am 0 0 0) q y

theorem sig_off {r c : Rc} {q y k : Nat} (hq : q < 8) (hb : y < 256) (hy : y ≠ 0) (h : Off r c q y) (hk : k < 18446744073709551616) : sig c k ≠ sig r k := by
  unfold sig
  intro e
  rcases h with ⟨h1, a, b, cc, d, f⟩ | ⟨⟨a, b, cc, d⟩, h1, f⟩ | ⟨⟨a, b, cc, d⟩, ⟨a', b', cc', d'⟩, h1⟩
  · rw [a, b, cc, d, f] at e
    have := link_inj (link_lt hk) (link_lt hk) (link_inj (link_lt (link_lt hk)) (link_lt (link_lt hk)) e)
    exact hy ((link_off hq hb h1 hk).1 this)
  · rw [a, b, cc, d, f] at e
    have := link_inj (link_lt (link_lt hk)) (link_lt (link_lt hk)) e
    exact hy ((link_off hq hb h1 (link_lt hk)).1 this)
  · rw [a, b, cc, d, a', b', cc', d'] at e
    exact hy ((link_off hq hb h1 (link_lt (link_lt hk))).1 e)

/-- A record with one byte changed is refused for the first party. -/
theorem chkC_off {r c : Rc} {k : K4} (h : chkC r k = -1) (hg : c.g0 = r.g0) (hne : sig c k.k0 ≠ sig r k.k0) : chkC c k = 0 := by
  obtain ⟨_, h0, _⟩ := chkC_ok h
  unfold chkC
  split
  · rfl
  · rw [if_pos (by rw [hg, h0]; exact fun e => hne e.symm)]

/-- The first of four things that are not as they should be. -/
def first4 (a b c d : Bool) : Int := if a then 0 else if b then 1 else if c then 2 else if d then 3 else -1

theorem chkC_first {r c : Rc} {k k' : K4} (h : chkC r k = -1) (hv : validC c = validC r) {a b cc d : Bool} (h0 : a = decide (c.g0 ≠ sig c k'.k0)) (h1 : b = decide (c.g1 ≠ sig c k'.k1)) (h2 : cc = decide (c.g2 ≠ sig c k'.k2)) (h3 : d = decide (c.g3 ≠ sig c k'.k3)) :
    chkC c k' = first4 a b cc d := by
  obtain ⟨hv', _⟩ := chkC_ok h
  unfold chkC first4
  rw [hv, hv', if_neg (by decide), h0, h1, h2, h3]
  simp only [decide_eq_true_eq]

end Go.Proofs.Ytddbobphmakmmaa
