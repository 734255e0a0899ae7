import PyProof.Rows.All
import Wide.All
import OpenK.AllK
import Wide.FinOn
import HandS.ForMost
import HandS.ForExc
import HandS.IsInst
import HandS.Style
import HandS.SortInts
import HandS.ExcIs
import HandS.Conv
import HandS.Zip
import HandS.More
import HandS.Sort
import KE.GoesNew
import HandS.Defaults
import HandS.HotCalls
import HandS.MakeKw
import HandS.MakeKwOnly
import PySem.Challenge.RW_ringseat_k10_a_house
set_option Elab.async false
set_option linter.all false
set_option maxRecDepth 100000
set_option maxHeartbeats 4000000
/-! ### the ring: seats 0 .. n-1, far from a home, who goes ahead, settled seatings -/
namespace Ring
def far (n h p : Nat) : Nat := if h ≤ p then p - h else p + n - h
def nx (n p : Nat) : Nat := if p + 1 < n then p + 1 else 0
def pv (n p : Nat) : Nat := if p = 0 then n - 1 else p - 1
theorem far_lt {n h p : Nat} (hh : h < n) (hp : p < n) : far n h p < n := by unfold far; split <;> omega
theorem far_self {n h : Nat} : far n h h = 0 := by unfold far; simp
theorem far_zero {n h p : Nat} (hh : h < n) (e : far n h p = 0) : p = h := by unfold far at e; split at e <;> omega
theorem far_inj {n h p q : Nat} (hh : h < n) (hp : p < n) (hq : q < n) (e : far n h p = far n h q) : p = q := by unfold far at e; split at e <;> split at e <;> omega
theorem nx_lt {n p : Nat} (hp : p < n) : nx n p < n := by unfold nx; split <;> omega
theorem pv_lt {n p : Nat} (hp : p < n) : pv n p < n := by unfold pv; split <;> omega
theorem nx_pv {n p : Nat} (hp : p < n) : nx n (pv n p) = p := by unfold nx pv; split <;> split <;> omega
theorem pv_nx {n p : Nat} (hp : p < n) : pv n (nx n p) = p := by
  unfold nx
  split
  · unfold pv; rw [if_neg (by omega)]; omega
  · unfold pv; rw [if_pos rfl]; omega
theorem nx_ne {n p : Nat} (h2 : 2 ≤ n) (hp : p < n) : nx n p ≠ p := by unfold nx; split <;> omega
theorem far_nx {n h p : Nat} (hh : h < n) (hp : p < n) (e : nx n p ≠ h) : far n h (nx n p) = far n h p + 1 := by
  unfold nx at *; unfold far
  split at e <;> rename_i h1
  · rw [if_pos h1]; split <;> split <;> omega
  · rw [if_neg h1]; split <;> split <;> omega
theorem far_last {n h p : Nat} (hh : h < n) (hp : p < n) (e : nx n p = h) : far n h p = n - 1 := by
  unfold nx at *; unfold far
  split at e <;> split <;> omega
theorem far_pv {n h p : Nat} (hh : h < n) (hp : p < n) (e : p ≠ h) : far n h (pv n p) + 1 = far n h p := by
  have := far_nx (n := n) (h := h) (p := pv n p) hh (pv_lt hp) (by rw [nx_pv hp]; exact e)
  rw [nx_pv hp] at this; omega
theorem far_le {n h p q : Nat} (hh : h < n) (hp : p < n) (hq : q < n) (e : nx n p ≠ h) : far n h q < far n h (nx n p) ↔ far n h q < far n h p ∨ q = p := by
  rw [far_nx hh hp e]
  constructor
  · intro h1
    by_cases h2 : far n h q < far n h p
    · exact .inl h2
    · exact .inr (far_inj hh hq hp (by omega))
  · rintro (h1 | rfl) <;> omega
/-- the way to an empty seat grows shorter -/
theorem far_to {n p e : Nat} (hp : p < n) (he : e < n) (h : p ≠ e) : far n (nx n p) e + 1 = far n p e := by
  unfold nx far
  split <;> split <;> split <;> omega

def fup (f : Nat → Option Int) (p : Nat) (v : Option Int) : Nat → Option Int := fun q => if q = p then v else f q
theorem fup_same {f : Nat → Option Int} {p : Nat} {v : Option Int} : fup f p v p = v := by unfold fup; rw [if_pos rfl]
theorem fup_ne {f : Nat → Option Int} {p q : Nat} {v : Option Int} (h : q ≠ p) : fup f p v q = f q := by unfold fup; rw [if_neg h]

section
variable (n : Nat) (h : Int → Nat)
/-- y goes ahead of g at seat q -/
def Ah (y g : Int) (q : Nat) : Prop := far n (h g) q < far n (h y) q ∨ (far n (h y) q = far n (h g) q ∧ y < g)
instance (y g : Int) (q : Nat) : Decidable (Ah n h y g q) := by unfold Ah; exact inferInstance
def Car (f : Nat → Option Int) (g : Int) (p : Nat) : Prop := ∀ q, q < n → far n (h g) q < far n (h g) p → ∃ y, f q = some y ∧ Ah n h y g q
def Path (f : Nat → Option Int) : Prop := ∀ p, p < n → ∀ g, f p = some g → Car n h f g p
def Sits (f : Nat → Option Int) (g : Int) : Prop := ∃ p, p < n ∧ f p = some g
/-- where a look for g ends -/
def Loc (f : Nat → Option Int) (g : Int) (p : Nat) : Prop := Car n h f g p ∧ ∀ y, f p = some y → ¬ Ah n h y g p
end
section
variable {n : Nat} {h : Int → Nat} {f : Nat → Option Int}
theorem ah_irr {g : Int} {q : Nat} : ¬ Ah n h g g q := by unfold Ah; omega
theorem ah_asym {y g : Int} {q : Nat} (a : Ah n h y g q) : ¬ Ah n h g y q := by unfold Ah at *; omega
theorem ah_tot {y g : Int} {q : Nat} (a : ¬ Ah n h y g q) (e : y ≠ g) : Ah n h g y q := by unfold Ah at *; omega
theorem ah_trans {x y z : Int} {q : Nat} (a : Ah n h x y q) (b : Ah n h y z q) : Ah n h x z q := by unfold Ah at *; omega
theorem ah_nx (hh : ∀ g, h g < n) {y z : Int} {p : Nat} (hp : p < n) (ey : nx n p ≠ h y) (ez : nx n p ≠ h z) : Ah n h y z (nx n p) ↔ Ah n h y z p := by
  unfold Ah; rw [far_nx (hh _) hp ey, far_nx (hh _) hp ez]; omega
theorem car_home {g : Int} : Car n h f g (h g) := fun q _ a => by rw [far_self] at a; omega
theorem car_nx (hh : ∀ g, h g < n) {g y : Int} {p : Nat} (hp : p < n) (c : Car n h f g p) (e : f p = some y) (a : Ah n h y g p) : Car n h f g (nx n p) := by
  by_cases w : nx n p = h g
  · rw [w]; exact car_home
  · intro q hq hl
    rcases (far_le (hh g) hp hq w).mp hl with h1 | rfl
    · exact c q hq h1
    · exact ⟨y, e, a⟩
/-- no guest is carried round the whole ring while a seat is empty -/
theorem no_wrap (hh : ∀ g, h g < n) {g : Int} {p e : Nat} (hp : p < n) (he : e < n) (h0 : f e = none) (c : Car n h f g p) (h1 : f p ≠ none) : nx n p ≠ h g := by
  intro w
  have hl := far_last (hh g) hp w
  by_cases ee : e = p
  · exact h1 (ee ▸ h0)
  have : far n (h g) e < far n (h g) p := by
    have h3 := far_lt (hh g) he
    have : far n (h g) e ≠ far n (h g) p := fun x => ee (far_inj (hh g) he hp x)
    omega
  obtain ⟨y, hy, _⟩ := c e he this
  rw [h0] at hy; cases hy
theorem path_one (hh : ∀ g, h g < n) (P : Path n h f) {x : Int} {p q : Nat} (hp : p < n) (hq : q < n) (e1 : f p = some x) (e2 : f q = some x) : p = q := by
  by_cases e : far n (h x) p = far n (h x) q
  · exact far_inj (hh x) hp hq e
  by_cases l : far n (h x) p < far n (h x) q
  · obtain ⟨y, hy, a⟩ := P q hq x e2 p hp l
    rw [e1] at hy; cases hy; exact absurd a ah_irr
  · obtain ⟨y, hy, a⟩ := P p hp x e1 q hq (by omega)
    rw [e2] at hy; cases hy; exact absurd a ah_irr
theorem loc_one (hh : ∀ g, h g < n) {g : Int} {p q : Nat} (hp : p < n) (hq : q < n) (a : Loc n h f g p) (b : Loc n h f g q) : p = q := by
  by_cases e : far n (h g) p = far n (h g) q
  · exact far_inj (hh g) hp hq e
  by_cases l : far n (h g) p < far n (h g) q
  · obtain ⟨y, hy, c⟩ := b.1 p hp l
    exact absurd c (a.2 y hy)
  · obtain ⟨y, hy, c⟩ := a.1 q hq (by omega)
    exact absurd c (b.2 y hy)
theorem path_loc (P : Path n h f) {g : Int} {p : Nat} (hp : p < n) (e : f p = some g) : Loc n h f g p := ⟨P p hp g e, fun y hy => by rw [e] at hy; cases hy; exact ah_irr⟩
/-- a guest sits where the look ends, or nowhere -/
theorem loc_sits (hh : ∀ g, h g < n) (P : Path n h f) {g : Int} {p : Nat} (hp : p < n) (l : Loc n h f g p) : Sits n f g ↔ f p = some g :=
  ⟨fun ⟨q, hq, e⟩ => by rw [loc_one hh hp hq l (path_loc P hq e)]; exact e, fun e => ⟨p, hp, e⟩⟩
theorem step_put {g : Int} {p : Nat} (P : Path n h f) (c : Car n h f g p) (e : f p = none) : Path n h (fup f p (some g)) := by
  intro q hq x hx
  by_cases w : q = p
  · subst w; rw [fup_same] at hx; cases hx
    intro r hr hl
    have : r ≠ q := fun e => by rw [e] at hl; omega
    rw [fup_ne this]; exact c r hr hl
  · rw [fup_ne w] at hx
    intro r hr hl
    obtain ⟨y, hy, a⟩ := P q hq x hx r hr hl
    have : r ≠ p := fun z => by rw [z, e] at hy; cases hy
    rw [fup_ne this]; exact ⟨y, hy, a⟩
theorem step_swap (hh : ∀ g, h g < n) {g y : Int} {p : Nat} (hp : p < n) (P : Path n h f) (c : Car n h f g p) (e : f p = some y) (a : Ah n h g y p) :
    Path n h (fup f p (some g)) ∧ Car n h (fup f p (some g)) y (nx n p) := by
  constructor
  · intro q hq x hx
    by_cases w : q = p
    · subst w; rw [fup_same] at hx; cases hx
      intro r hr hl
      have : r ≠ q := fun e => by rw [e] at hl; omega
      rw [fup_ne this]; exact c r hr hl
    · rw [fup_ne w] at hx
      intro r hr hl
      obtain ⟨z, hz, b⟩ := P q hq x hx r hr hl
      by_cases w2 : r = p
      · subst w2; rw [fup_same]; rw [e] at hz; cases hz
        exact ⟨g, rfl, ah_trans a b⟩
      · rw [fup_ne w2]; exact ⟨z, hz, b⟩
  · refine car_nx hh hp (y := g) ?_ fup_same a
    intro r hr hl
    have : r ≠ p := fun e => by rw [e] at hl; omega
    rw [fup_ne this]; exact P p hp y e r hr hl
/-- who is pushed on goes ahead of who sits on the next seat -/
theorem push_next (h2 : 2 ≤ n) (hh : ∀ g, h g < n) {y z : Int} {p e : Nat} (hp : p < n) (he : e < n) (h0 : f e = none) (P : Path n h f) (ey : f p = some y) (ez : f (nx n p) = some z) : Ah n h y z (nx n p) := by
  have wy := no_wrap hh hp he h0 (P p hp y ey) (by rw [ey]; exact fun x => nomatch x)
  by_cases wz : nx n p = h z
  · have : far n (h z) (nx n p) = 0 := by rw [wz]; exact far_self
    refine .inl ?_
    rw [this, far_nx (hh y) hp wy]; omega
  · rw [ah_nx hh hp wy wz]
    obtain ⟨y', hy', a⟩ := P _ (nx_lt hp) z ez p hp (by rw [far_nx (hh z) hp wz]; omega)
    rw [ey] at hy'; cases hy'; exact a
/-- who sits away from home has one ahead of it on the seat before -/
theorem path_before (hh : ∀ g, h g < n) (P : Path n h f) {g : Int} {p : Nat} (hp : p < n) (e : f p = some g) (w : h g ≠ p) : ∃ y, f (pv n p) = some y ∧ Ah n h y g (pv n p) :=
  P p hp g e _ (pv_lt hp) (by have := far_pv (hh g) hp (fun z => w z.symm); omega)
/-! who sits, behind a step -/
theorem sits_put {g : Int} {p : Nat} (hp : p < n) (e : f p = none) (x : Int) : Sits n (fup f p (some g)) x ↔ Sits n f x ∨ x = g := by
  constructor
  · rintro ⟨q, hq, hx⟩
    by_cases w : q = p
    · subst w; rw [fup_same] at hx; cases hx; exact .inr rfl
    · rw [fup_ne w] at hx; exact .inl ⟨q, hq, hx⟩
  · rintro (⟨q, hq, hx⟩ | rfl)
    · have w : q ≠ p := fun z => by rw [z, e] at hx; cases hx
      exact ⟨q, hq, by rw [fup_ne w]; exact hx⟩
    · exact ⟨p, hp, fup_same⟩
theorem sits_swap {g y : Int} {p : Nat} (hp : p < n) (e : f p = some y) (x : Int) : (Sits n (fup f p (some g)) x ∨ x = y) ↔ (Sits n f x ∨ x = g) := by
  constructor
  · rintro (⟨q, hq, hx⟩ | rfl)
    · by_cases w : q = p
      · subst w; rw [fup_same] at hx; cases hx; exact .inr rfl
      · rw [fup_ne w] at hx; exact .inl ⟨q, hq, hx⟩
    · exact .inl ⟨p, hp, e⟩
  · rintro (⟨q, hq, hx⟩ | rfl)
    · by_cases w : q = p
      · subst w; rw [e] at hx; cases hx; exact .inr rfl
      · exact .inl ⟨q, hq, by rw [fup_ne w]; exact hx⟩
    · exact .inl ⟨p, hp, fup_same⟩
/-! taking a guest out: seat `at` is open, its entry stale -/
def PathX (n : Nat) (h : Int → Nat) (f : Nat → Option Int) (o : Nat) : Prop := ∀ q, q < n → q ≠ o → ∀ x, f q = some x → Car n h f x q
def SitsX (n : Nat) (f : Nat → Option Int) (o : Nat) (g : Int) : Prop := ∃ p, p < n ∧ p ≠ o ∧ f p = some g
theorem pathX_of (P : Path n h f) (o : Nat) : PathX n h f o := fun q hq _ x hx => P q hq x hx
theorem out_step (h2 : 2 ≤ n) (hh : ∀ g, h g < n) {y w : Int} {o : Nat} (ho : o < n) (P : PathX n h f o) (hw : f o = some w) (e : f (nx n o) = some y) (a : h y ≠ nx n o) :
    PathX n h (fup f o (some y)) (nx n o) := by
  have hb := nx_lt ho
  have hne := nx_ne h2 ho
  intro q hq wq x hx
  by_cases c1 : q = o
  · subst c1; rw [fup_same] at hx; cases hx
    intro r hr hl
    have : r ≠ q := fun e => by rw [e] at hl; omega
    rw [fup_ne this]
    exact P _ hb hne y e r hr (by rw [far_nx (hh y) ho (fun z => a z.symm)]; omega)
  · rw [fup_ne c1] at hx
    intro r hr hl
    by_cases c2 : r = o
    · subst c2; rw [fup_same]
      refine ⟨y, rfl, ?_⟩
      have hx2 : nx n r ≠ h x := fun z => by
        have := far_last (hh x) ho z
        have := far_lt (hh x) hq
        omega
      have hl2 : far n (h x) (nx n r) < far n (h x) q := by
        have h3 := far_nx (hh x) ho hx2
        have : far n (h x) (nx n r) ≠ far n (h x) q := fun z => wq (far_inj (hh x) hb hq z).symm
        omega
      obtain ⟨y', hy', ah⟩ := P q hq c1 x hx _ hb hl2
      rw [e] at hy'; cases hy'
      exact (ah_nx hh ho (fun z => a z.symm) hx2).mp ah
    · rw [fup_ne c2]; exact P q hq c1 x hx r hr hl
theorem out_sits (h2 : 2 ≤ n) {y : Int} {o : Nat} (ho : o < n) (e : f (nx n o) = some y) (x : Int) : SitsX n (fup f o (some y)) (nx n o) x ↔ SitsX n f o x := by
  have hne := nx_ne h2 ho
  constructor
  · rintro ⟨q, hq, c, hx⟩
    by_cases w : q = o
    · subst w; rw [fup_same] at hx; cases hx; exact ⟨_, nx_lt ho, hne, e⟩
    · rw [fup_ne w] at hx; exact ⟨q, hq, w, hx⟩
  · rintro ⟨q, hq, c, hx⟩
    by_cases w : q = nx n o
    · subst w; rw [e] at hx; cases hx; exact ⟨o, ho, fun z => hne z.symm, fup_same⟩
    · exact ⟨q, hq, w, by rw [fup_ne c]; exact hx⟩
theorem out_end (h2 : 2 ≤ n) (hh : ∀ g, h g < n) {o : Nat} (ho : o < n) (P : PathX n h f o) (e : ∀ y, f (nx n o) = some y → h y = nx n o) : Path n h (fup f o none) := by
  have hb := nx_lt ho
  have hne := nx_ne h2 ho
  intro q hq x hx
  by_cases c1 : q = o
  · subst c1; rw [fup_same] at hx; cases hx
  · rw [fup_ne c1] at hx
    intro r hr hl
    by_cases c2 : r = o
    · subst c2
      exfalso
      have hx2 : nx n r ≠ h x := fun z => by
        have := far_last (hh x) ho z
        have := far_lt (hh x) hq
        omega
      by_cases c3 : q = nx n r
      · subst c3; exact hx2 (e x hx).symm
      · have h3 := far_nx (hh x) ho hx2
        have : far n (h x) (nx n r) ≠ far n (h x) q := fun z => c3 (far_inj (hh x) hb hq z).symm
        obtain ⟨y, hy, ah⟩ := P q hq c1 x hx _ hb (by omega)
        have e1 := e y hy
        have : far n (h y) (nx n r) = 0 := by rw [e1]; exact far_self
        unfold Ah at ah; omega
    · rw [fup_ne c2]; exact P q hq c1 x hx r hr hl
theorem outEnd_sits {o : Nat} (x : Int) : Sits n (fup f o none) x ↔ SitsX n f o x := by
  constructor
  · rintro ⟨q, hq, hx⟩
    by_cases w : q = o
    · subst w; rw [fup_same] at hx; cases hx
    · rw [fup_ne w] at hx; exact ⟨q, hq, w, hx⟩
  · rintro ⟨q, hq, c, hx⟩
    exact ⟨q, hq, by rw [fup_ne c]; exact hx⟩
theorem sitsX_of (hh : ∀ g, h g < n) (P : Path n h f) {o : Nat} {g : Int} (ho : o < n) (e : f o = some g) (x : Int) : SitsX n f o x ↔ Sits n f x ∧ x ≠ g := by
  constructor
  · rintro ⟨q, hq, c, hx⟩
    exact ⟨⟨q, hq, hx⟩, fun z => c (path_one hh P hq ho hx (z ▸ e))⟩
  · rintro ⟨⟨q, hq, hx⟩, c⟩
    exact ⟨q, hq, fun z => by rw [z, e] at hx; cases hx; exact c rfl, hx⟩
/-! one settled seating alone -/
theorem far_before {n h p q e : Nat} (hh : h < n) (hp : p < n) (hq : q < n) (he : e < n) (h1 : far n h p < far n h q) (h2 : far n h q < far n h e) : far n (nx n e) p < far n (nx n e) q := by
  unfold nx
  split
  · unfold far at *; split <;> split <;> (split at h1 <;> split at h1 <;> split at h2 <;> split at h2 <;> omega)
  · unfold far at *; split <;> split <;> (split at h1 <;> split at h1 <;> split at h2 <;> split at h2 <;> omega)
theorem one_side (hh : ∀ g, h g < n) {s t : Nat → Option Int} (S : Path n h s) (T : Path n h t) (st : ∀ g, Sits n t g → Sits n s g) {e : Nat} (he : e < n) (h0 : t e = none) :
    ∀ (m : Nat) (g : Int) (p q : Nat), p < n → q < n → s p = some g → t q = some g → far n (nx n e) q ≤ m → ¬ far n (h g) p < far n (h g) q := by
  intro m
  induction m with
  | zero =>
    intro g p q hp hq hs ht hm hl
    have c := T q hq g ht
    have : far n (h g) q < far n (h g) e := by
      have h1 : e ≠ q := fun z => by rw [← z, h0] at ht; cases ht
      have h3 : far n (h g) e ≠ far n (h g) q := fun z => h1 (far_inj (hh g) he hq z)
      by_cases h4 : far n (h g) e < far n (h g) q
      · obtain ⟨y, hy, _⟩ := c e he h4; rw [h0] at hy; cases hy
      · omega
    have := far_before (hh g) hp hq he hl this
    omega
  | succ m ih =>
    intro g p q hp hq hs ht hm hl
    have c := T q hq g ht
    have h5 : far n (h g) q < far n (h g) e := by
      have h1 : e ≠ q := fun z => by rw [← z, h0] at ht; cases ht
      have h3 : far n (h g) e ≠ far n (h g) q := fun z => h1 (far_inj (hh g) he hq z)
      by_cases h4 : far n (h g) e < far n (h g) q
      · obtain ⟨y, hy, _⟩ := c e he h4; rw [h0] at hy; cases hy
      · omega
    have h6 := far_before (hh g) hp hq he hl h5
    obtain ⟨y, hy, a⟩ := c p hp hl
    obtain ⟨p', hp', hy'⟩ := st y ⟨p, hp, hy⟩
    refine ih y p' p hp' hp hy' hy (by omega) ?_
    have h7 : p' ≠ p := fun z => by
      rw [z, hs] at hy'; cases hy'; exact ah_irr a
    have h8 : far n (h y) p' ≠ far n (h y) p := fun z => h7 (far_inj (hh y) hp' hp z)
    by_cases h9 : far n (h y) p < far n (h y) p'
    · obtain ⟨z, hz, b⟩ := S p' hp' y hy' p hp h9
      rw [hs] at hz; cases hz
      exact absurd b (ah_asym a)
    · omega
theorem alike (hh : ∀ g, h g < n) {s t : Nat → Option Int} (S : Path n h s) (T : Path n h t) (st : ∀ g, Sits n t g ↔ Sits n s g) (h0 : ∃ e, e < n ∧ t e = none) (h1 : ∃ e, e < n ∧ s e = none) :
    ∀ p, p < n → s p = t p := by
  obtain ⟨e, he, h0⟩ := h0
  obtain ⟨e', he', h1⟩ := h1
  have key : ∀ p g, p < n → (s p = some g ↔ t p = some g) := by
    intro p g hp
    constructor
    · intro hs
      obtain ⟨q, hq, ht⟩ := (st g).mpr ⟨p, hp, hs⟩
      have a := one_side hh S T (fun g => (st g).mp) he h0 _ g p q hp hq hs ht (Nat.le_refl _)
      have b := one_side hh T S (fun g => (st g).mpr) he' h1 _ g q p hq hp ht hs (Nat.le_refl _)
      rw [far_inj (hh g) hp hq (by omega)]; exact ht
    · intro ht
      obtain ⟨q, hq, hs⟩ := (st g).mp ⟨p, hp, ht⟩
      have a := one_side hh S T (fun g => (st g).mp) he h0 _ g q p hq hp hs ht (Nat.le_refl _)
      have b := one_side hh T S (fun g => (st g).mpr) he' h1 _ g p q hp hq ht hs (Nat.le_refl _)
      rw [far_inj (hh g) hp hq (by omega)]; exact hs
  intro p hp
  cases hs : s p with
  | some g => exact ((key p g hp).mp hs).symm
  | none =>
    cases ht : t p with
    | none => rfl
    | some g => rw [(key p g hp).mpr ht] at hs; cases hs
end
end Ring
/-! ### who sits, as a list -/
namespace Ring
def gl (n : Nat) (f : Nat → Option Int) : List Int := (List.range n).filterMap f
def em (n : Nat) (f : Nat → Option Int) : Nat := (List.range n).countP (fun p => (f p).isNone)
theorem mem_gl {n : Nat} {f : Nat → Option Int} {x : Int} : x ∈ gl n f ↔ Sits n f x := by
  unfold gl Sits
  rw [List.mem_filterMap]
  exact ⟨fun ⟨p, hp, e⟩ => ⟨p, List.mem_range.mp hp, e⟩, fun ⟨p, hp, e⟩ => ⟨p, List.mem_range.mpr hp, e⟩⟩
theorem fm_len (l : List Nat) (f : Nat → Option Int) : (l.filterMap f).length + l.countP (fun p => (f p).isNone) = l.length := by
  induction l with
  | nil => rfl
  | cons a l ih =>
    cases e : f a with
    | none => rw [List.filterMap_cons_none e, List.countP_cons_of_pos (by simp [e]), List.length_cons]; omega
    | some y => rw [List.filterMap_cons_some e, List.countP_cons_of_neg (by simp [e]), List.length_cons, List.length_cons]; omega
theorem gl_em (n : Nat) (f : Nat → Option Int) : (gl n f).length + em n f = n := by
  have := fm_len (List.range n) f
  rw [List.length_range] at this; exact this
theorem em_pos {n : Nat} {f : Nat → Option Int} : 0 < em n f ↔ ∃ e, e < n ∧ f e = none := by
  unfold em
  rw [List.countP_pos_iff]
  constructor
  · rintro ⟨a, ha, e⟩; exact ⟨a, List.mem_range.mp ha, by simpa using e⟩
  · rintro ⟨a, ha, e⟩; exact ⟨a, List.mem_range.mpr ha, by simpa using e⟩
theorem fm_nodup (l : List Nat) (hl : l.Nodup) (f : Nat → Option Int) (one : ∀ p q x, p ∈ l → q ∈ l → f p = some x → f q = some x → p = q) : (l.filterMap f).Nodup := by
  induction l with
  | nil => exact List.nodup_nil
  | cons a l ih =>
    obtain ⟨h1, h2⟩ := List.nodup_cons.mp hl
    have ih' := ih h2 fun p q x hp hq => one p q x (List.mem_cons_of_mem _ hp) (List.mem_cons_of_mem _ hq)
    cases e : f a with
    | none => rw [List.filterMap_cons_none e]; exact ih'
    | some y =>
      rw [List.filterMap_cons_some e]
      refine List.nodup_cons.mpr ⟨fun hm => ?_, ih'⟩
      obtain ⟨b, hb, e2⟩ := List.mem_filterMap.mp hm
      have := one a b y List.mem_cons_self (List.mem_cons_of_mem _ hb) e e2
      exact h1 (this ▸ hb)
theorem gl_nodup {n : Nat} {h : Int → Nat} {f : Nat → Option Int} (hh : ∀ g, h g < n) (P : Path n h f) : (gl n f).Nodup :=
  fm_nodup _ List.nodup_range f fun _ _ _ hp hq e1 e2 => path_one hh P (List.mem_range.mp hp) (List.mem_range.mp hq) e1 e2
theorem perm_of {a b : List Int} (ha : a.Nodup) (hb : b.Nodup) (e : ∀ x, x ∈ a ↔ x ∈ b) : a.Perm b := (List.perm_ext_iff_of_nodup ha hb).mpr e
theorem gl_perm {n : Nat} {h : Int → Nat} {f : Nat → Option Int} (hh : ∀ g, h g < n) (P : Path n h f) {gs : List Int} (hn : gs.Nodup) (e : ∀ x, Sits n f x ↔ x ∈ gs) : (gl n f).Perm gs :=
  perm_of (gl_nodup hh P) hn fun x => by rw [mem_gl]; exact e x
theorem em_of {n : Nat} {h : Int → Nat} {f : Nat → Option Int} (hh : ∀ g, h g < n) (P : Path n h f) {gs : List Int} (hn : gs.Nodup) (e : ∀ x, Sits n f x ↔ x ∈ gs) : em n f + gs.length = n := by
  have := gl_em n f
  rw [(gl_perm hh P hn e).length_eq] at this; omega
/-- no seat, no guest -/
theorem path_none {n : Nat} {h : Int → Nat} : Path n h (fun _ => none) := fun _ _ _ e => nomatch e
theorem sits_none {n : Nat} {x : Int} : ¬ Sits n (fun _ => none) x := fun ⟨_, _, e⟩ => nomatch e
/-- a look ends: where a seat is empty -/
theorem loc_or (n : Nat) (h : Int → Nat) (f : Nat → Option Int) (g : Int) (p : Nat) : (f p = none ∨ (∃ y, f p = some y ∧ ¬ Ah n h y g p)) ∨ ∃ y, f p = some y ∧ Ah n h y g p := by
  cases e : f p with
  | none => exact .inl (.inl rfl)
  | some y =>
    by_cases a : Ah n h y g p
    · exact .inr ⟨y, rfl, a⟩
    · exact .inl (.inr ⟨y, rfl, a⟩)
end Ring
namespace Ring
theorem swap_out {n : Nat} {h : Int → Nat} {f : Nat → Option Int} (hh : ∀ g, h g < n) (P : Path n h f) {g y : Int} {p : Nat} (hp : p < n) (e : f p = some y) (ng : ¬ Sits n f g) : ¬ Sits n (fup f p (some g)) y := by
  rintro ⟨q, hq, hx⟩
  by_cases w : q = p
  · subst w; rw [fup_same] at hx; cases hx; exact ng ⟨q, hq, e⟩
  · rw [fup_ne w] at hx; exact w (path_one hh P hq hp hx e)
end Ring
/-! ### the home of a guest, how far it is carried, who goes ahead: as the program reckons, and on the ring -/
namespace RS
def homeI (g n : Int) : Int := (g * 40503 + g / 65536) % 65536 % n
def farI (g p n : Int) : Int := (p - homeI g n) % n
def aheadI (a b p n : Int) : Bool := decide (farI b p n < farI a p n ∨ (farI a p n = farI b p n ∧ a < b))
def hm (n : Nat) (g : Int) : Nat := (homeI g n).toNat
theorem homeI_lo {g n : Int} (hn : 0 < n) : 0 ≤ homeI g n := Int.emod_nonneg _ (by omega)
theorem homeI_hi {g n : Int} (hn : 0 < n) : homeI g n < n := Int.emod_lt_of_pos _ hn
theorem farI_lo {g p n : Int} (hn : 0 < n) : 0 ≤ farI g p n := Int.emod_nonneg _ (by omega)
theorem farI_hi {g p n : Int} (hn : 0 < n) : farI g p n < n := Int.emod_lt_of_pos _ hn
theorem hm_is {n : Nat} (hn : 0 < n) (g : Int) : homeI g n = (hm n g : Int) := by
  have := homeI_lo (g := g) (n := n) (by omega)
  unfold hm; omega
theorem hm_lt {n : Nat} (hn : 0 < n) (g : Int) : hm n g < n := by
  have := homeI_hi (g := g) (n := n) (by omega)
  have := hm_is hn g
  omega
theorem mod_far {n h p : Nat} (hh : h < n) (hp : p < n) : ((p : Int) - (h : Int)) % (n : Int) = (Ring.far n h p : Int) := by
  unfold Ring.far
  split
  · rw [Int.emod_eq_of_lt (by omega) (by omega)]; omega
  · rw [← Int.add_emod_right, Int.emod_eq_of_lt (by omega) (by omega)]; omega
theorem far_is {n p : Nat} (hp : p < n) (g : Int) : farI g p n = (Ring.far n (hm n g) p : Int) := by
  have hn : 0 < n := by omega
  unfold farI
  rw [hm_is hn, mod_far (hm_lt hn g) hp]
theorem nx_is {n p : Nat} (hp : p < n) : ((p : Int) + 1) % (n : Int) = (Ring.nx n p : Int) := by
  unfold Ring.nx
  split
  · rw [Int.emod_eq_of_lt (by omega) (by omega)]; omega
  · have : (p : Int) + 1 = n := by omega
    rw [this, Int.emod_self]; rfl
theorem pv_is {n p : Nat} (hp : p < n) : ((p : Int) - 1) % (n : Int) = (Ring.pv n p : Int) := by
  unfold Ring.pv
  split
  · rename_i e
    rw [← Int.add_emod_right, Int.emod_eq_of_lt (by omega) (by omega)]; omega
  · rw [Int.emod_eq_of_lt (by omega) (by omega)]; omega
theorem ahead_is {n p : Nat} (hp : p < n) (a b : Int) : aheadI a b p n = decide (Ring.Ah n (hm n) a b p) := by
  unfold aheadI Ring.Ah
  rw [far_is hp, far_is hp]
  refine decide_eq_decide.mpr ?_
  constructor
  · rintro (h | ⟨h1, h2⟩)
    · exact .inl (by omega)
    · exact .inr ⟨by omega, h2⟩
  · rintro (h | ⟨h1, h2⟩)
    · exact .inl (by omega)
    · exact .inr ⟨by omega, h2⟩
end RS
/-! ### words of our own: a def that stands behind the top, a def that keeps its promise, the call of one -/
namespace RS
open PySem PySem.Spec PyProof.Rows L2

abbrev rAdd : R2 := rI0 fun i j => .int (i + j)
abbrev rSub : R2 := rI0 fun i j => .int (i - j)
abbrev rMod : R2 := rI (fun _ j => 0 < j) fun i j => .int (i % j)
abbrev rFdv : R2 := rI CDiv fun i j => .int (i / j)
abbrev rLt : R2 := rI0 fun i j => .bl (decide (i < j))
abbrev rLe : R2 := rI0 fun i j => .bl (decide (i ≤ j))
abbrev rGt : R2 := rI0 fun i j => .bl (decide (j < i))
abbrev rGe : R2 := rI0 fun i j => .bl (decide (j ≤ i))
abbrev rNeg : V → Hp → VK → Prop := rU fun i => .int (-i)
/-- one factor within 64 bits -/
def CMl (i j : Int) : Prop := (-18446744073709551616 < i ∧ i < 18446744073709551616) ∨ (-18446744073709551616 < j ∧ j < 18446744073709551616)
theorem CMl.ok {i j : Int} (h : CMl i j) : CMul i j := h
abbrev rMul : R2 := rI CMl fun i j => .int (i * j)
theorem op_mulL {X : Cx} : OpR X (binaryOp .Mult) rMul := by
  intro pins s σ H x y u v Q I rx ry h
  obtain ⟨i, j, hx, hy, hc, q⟩ := h
  exact op_mul pins s σ H x y u v Q I rx ry ⟨i, j, hx, hy, hc.ok, q⟩
/-- a power of two written numbers, by its value -/
theorem pe_pow {X : Cx} {a b : Int} {m n N : Nat} {j1 j2 : Nat} {p1 p2 pos : Pos} (ha : a = (m : Int)) (hb : b = (n : Int)) (hN : m ^ n = N) (hn : (n : Int) ≤ 1000000) (hm : m < 18446744073709551616) :
    PE X (.BinOp (.Constant (.int a) j1 p1) .Pow (.Constant (.int b) j2 p2) pos) (tC (.int (N : Int))) := by
  refine ⟨fun pins s σ H Q I h => ?_⟩
  refine (pe_op op_pow pe_int pe_int).run pins s σ H Q I ⟨a, b, rfl, rfl, ⟨by omega, by omega, by subst ha; rw [Int.natAbs_natCast]; exact hm⟩, ?_⟩
  show Q (.int (a ^ b.toNat)) H
  rw [hb, Int.toNat_natCast, ha, ← Int.natCast_pow, hN]
  exact h
def rLenS (K : PySem.W.Frag) : List V → Hp → VK → Prop := fun xs H Q => ∃ p ys, xs = [.ref p] ∧ (SqL K H p ys ∨ SqT K H p ys) ∧ Q (.int ys.length) H
def rLenD : List V → Hp → VK → Prop := fun xs H Q => ∃ a kvs, xs = [V.ref a] ∧ H a = some (.dK kvs) ∧ Q (.int kvs.length) H
def rListS (K : PySem.W.Frag) : List V → Hp → VK → Prop := fun xs H Q => ∃ p ys, xs = [.ref p] ∧ (SqL K H p ys ∨ SqT K H p ys) ∧ ∀ l, H l = none → Q (.ref l) (upd H l (.lst ys))
def rMax2 : List V → Hp → VK → Prop := fun xs H Q => ∃ i j, xs = [.int i, .int j] ∧ Q (.int (if j > i then j else i)) H
def rMin2 : List V → Hp → VK → Prop := fun xs H Q => ∃ i j, xs = [.int i, .int j] ∧ Q (.int (if j < i then j else i)) H
def rInt1 : List V → Hp → VK → Prop := fun xs H Q => (∃ i, xs = [.int i] ∧ Q (.int i) H) ∨ ∃ k, xs = [.bl k] ∧ Q (.int (if k then 1 else 0)) H
def rStr1 : List V → Hp → VK → Prop := fun xs H Q => ∃ i, xs = [.int i] ∧ i.natAbs.log2 < 1920 ∧ Q (.str (toString i)) H

/-- the program's classes, by where they stand -/
structure Cs where
  cRingError : Addr
  cNoGuest : Addr
  cNoSize : Addr
  cTwice : Addr
  cAway : Addr
  cFull : Addr
  cHouse : Addr

/-- a def of the text, by its name -/
structure Def (K : PySem.W.Frag) (mg : Str → Option Value) (x : Str) (st : Stmt) : Prop where
  ex : ∃ f fd, Fun K x x st f fd ∧ mg x = some (.ref f)
theorem def_mk {K : PySem.W.Frag} {h : Heap} {mg : Str → Option Value} {x : Str} {st : Stmt} {f : Addr} (X : K.In h) (G : h.Ns mainGlobals mg)
    {od an : Option Addr} {sl : Array (Option Value)} {oc kV dc pm cd ct : Value}
    (a : PySem.W.nsIn K mainGlobals x = some (some (.ref f))) (l : K.lookup f = some ⟨oc, od, .func (PySem.W.fnOf x x (defArgs st) (defBody st) (defScope st) .none kV dc pm an cd ct), sl⟩)
    (c : PySem.W.codeIn K cd x = true) (k : PySem.W.keepIn K (.ref f) = true) : Def K mg x st :=
  ⟨f, _, fun_mk l c k, PySem.W.mg_of X G a⟩

/-- a def that keeps its promise, by its name -/
structure Cal (P : Program) (w : World) (K : PySem.W.Frag) (mg : Str → Option Value) (base : Heap) (CX : CXT) (k : Nat) (x : Str) (ps : List Str) (sp : Sp) : Prop where
  ex : ∃ f fd, FnOk P w K mg base CX k f fd ps sp ∧ mg x = some (.ref f) ∧ PySem.W.keepIn K (.ref f) = true ∧ Binds K fd ps []
section
variable {X : Cx} {CX : CXT} {k : Nat} {ps : List Str} {sp : Sp} {E : XK} {x : Str} {p pos : Pos} {e : Expr} {es : List Expr} {t : TA}
theorem pe_fn (c : Cal X.prog X.w X.K X.mg X.base CX k x ps sp) (hr : Room k X.A) (hx : Passes CX X E) (ha : PA X (e :: es) t) (hg : Gl X x := by rfl) (hdb : (x == ("__debug__" : Str)) = false := by decide)
    (he : starEach (e :: es) X.env = (false, eval e X.env) :: starEach es X.env := by rfl) (hpl : (backTo pos (starEach es X.env)).any (·.1) = false := by rfl) :
    PE X (.Call (.Name x p) (e :: es) [] pos) (tCall sp [] E t) := by
  obtain ⟨f, fd, G, hm, hk, hb⟩ := c.ex
  exact pe_call G hr hg hm hk hb .nil hx ha hdb he hpl
end
theorem iteB {c : Bool} {A B : Prop} (h1 : c = true → A) (h2 : c = false → B) : if c = true then A else B := by
  cases c with
  | true => rw [if_pos rfl]; exact h1 rfl
  | false => rw [if_neg Bool.false_ne_true]; exact h2 rfl
end RS
/-! ### isinstance of the built-in kinds, by what a value is -/
namespace RS
open PySem PySem.Spec PyProof.Rows L2
inductive Ty where
  | int | bool | none | str | list | tuple | dict
  deriving DecidableEq
def Ty.nm : Ty → String
  | .int => "int" | .bool => "bool" | .none => "NoneType" | .str => "str" | .list => "list" | .tuple => "tuple" | .dict => "dict"
def Ty.isA : Ty → Ty → Bool
  | .int, .int => true | .bool, .bool => true | .bool, .int => true | .none, .none => true | .str, .str => true | .list, .list => true | .tuple, .tuple => true | .dict, .dict => true | _, _ => false
def hoTy : HO → Option Ty
  | .lst _ => some .list | .tup _ => some .tuple | .dK _ => some .dict | .frz _ (.lst _) => some .list | _ => Option.none
def tyOf (H : Hp) : V → Option Ty
  | .int _ => some .int | .bl _ => some .bool | .non => some .none | .str _ => some .str
  | .ref a => (H a).bind hoTy
  | _ => Option.none
theorem tyOf_int {H : Hp} {i : Int} : tyOf H (.int i) = some .int := rfl
theorem tyOf_bl {H : Hp} {i : Bool} : tyOf H (.bl i) = some .bool := rfl
theorem tyOf_non {H : Hp} : tyOf H .non = some .none := rfl
theorem tyOf_str {H : Hp} {i : Str} : tyOf H (.str i) = some .str := rfl
theorem tyX_of {K : PySem.W.Frag} {H : Hp} {x : V} {s : Ty} (h : tyOf H x = some s) : TyX K H x (.type s.nm) := by
  cases x with
  | int i => cases h; exact .base (.int i)
  | bl b => cases h; exact .base (.bl b)
  | non => cases h; exact .base .non
  | str z => cases h; exact .base (.str z)
  | byt b => cases h
  | flt b => cases h
  | ty n => cases h
  | ref a =>
    have h' : (H a).bind hoTy = some s := h
    cases e : H a with
    | none => rw [e] at h'; cases h'
    | some o =>
      rw [e] at h'
      have h2 : hoTy o = some s := h'
      cases o with
      | lst xs => cases h2; exact .base (.lst e)
      | tup xs => cases h2; exact .base (.tup e)
      | dK kvs => cases h2; exact .base (.dK e)
      | frz ob u =>
        cases u with
        | lst xs => cases h2; exact .base (.frz e)
        | _ => cases h2
      | _ => cases h2
theorem kit_is : ∀ s c : Ty, (c = .int ∨ c = .bool ∨ c = .list ∨ c = .tuple) → kitB s.nm c.nm = some (s.isA c) := by
  intro s c hc
  rcases hc with rfl | rfl | rfl | rfl <;> cases s <;> decide +kernel
def isWh : V → Bool
  | .int _ => true
  | _ => false
theorem isWh_int {i : Int} : isWh (.int i) = true := rfl
theorem isWh_bl {i : Bool} : isWh (.bl i) = false := rfl
theorem isWh_non : isWh .non = false := rfl
theorem isWh_ref {i : Addr} : isWh (.ref i) = false := rfl
def rIsA (c : Ty) : List V → Hp → VK → Prop := fun xs H Q => ∃ x s, xs = [x, .ty c.nm] ∧ tyOf H x = some s ∧ Q (.bl (s.isA c)) H
theorem call_isA {X : Cx} {c : Ty} (hc : c = .int ∨ c = .bool ∨ c = .list ∨ c = .tuple := by first | exact .inl rfl | exact .inr (.inl rfl) | exact .inr (.inr (.inl rfl)) | exact .inr (.inr (.inr rfl))) : CallR X (.builtin "isinstance") (rIsA c) := by
  intro pins s σ H xs us Q I r h
  obtain ⟨x, t, rfl, ht, q⟩ := h
  exact call_isi pins s σ H _ us Q I r ⟨x, .ty c.nm, _, _, _, rfl, .ty _, tyX_of ht, kit_ty (kit_is t c hc), q⟩

/-! ### steps -/
section
variable {K : PySem.W.Frag} {ta : TA} {te tl : TE} {g : TG} {tb t u : TS} {c : TT} {D : Ends} {σ : L2.St} {H H' : Hp}
theorem for_rng1 {j : Int} {n : Nat} (hta : ∀ R : List V → Hp → Prop, R [.int j] H' → ta σ H R) (hj : j = (n : Int)) (hn : n < 2 ^ 62) (Pv : Nat → L2.St → Hp → Prop) (h0 : Pv 0 σ H')
    (hs : ∀ (i : Nat) σ H, i < n → Pv i σ H → g (.int (i : Int)) σ H fun σ2 H2 => tb { D with nx := Pv (i + 1), ct := Pv (i + 1), bk := D.nx } σ2 H2) (hd : ∀ σ H, Pv n σ H → D.nx σ H) : tFor (iRng1 ta) g tb D σ H := by
  subst hj
  refine hta _ ⟨(n : Int), rfl, ?_, ?_, ?_⟩
  · have : (0 : Int) ≤ n := Int.natCast_nonneg n
    omega
  · omega
  · rw [Int.toNat_natCast]
    exact for_range (lo := 0) Pv h0 (fun i σ H hi p => by rw [Int.zero_add]; exact hs i σ H hi p) hd
theorem for_lst {a : Addr} {xs : List V} (htl : ∀ R : VK, R (.ref a) H' → tl σ H R) (hx : SqL K H' a xs) (Pv : Nat → L2.St → Hp → Prop) (h0 : Pv 0 σ H') (hl : ∀ i σ H, i ≤ xs.length → Pv i σ H → SqL K H a xs)
    (hs : ∀ i x σ H, xs[i]? = some x → Pv i σ H → g x σ H fun σ2 H2 => tb { D with nx := Pv (i + 1), ct := Pv (i + 1), bk := D.nx } σ2 H2) (hd : ∀ σ H, Pv xs.length σ H → D.nx σ H) : tFor (iList K tl) g tb D σ H :=
  htl _ ⟨a, rfl, ⟨xs, hx⟩, for_list Pv h0 hl hs hd⟩
theorem if_step {b : Bool} (hc : ∀ R : Bool → Hp → Prop, R b H' → c σ H R) (h1 : b = true → t D σ H') (h2 : b = false → u D σ H') : tIfS c t u D σ H := hc _ (iteB h1 h2)
theorem asg_step {v : V} {i : Nat} (he : ∀ R : VK, R v H' → te σ H R) (h : D.nx (σ.set i (some v)) H') : tAsg te (gName i) D σ H := he _ h
end
end RS
namespace RS
open PySem PySem.Spec PyProof.Rows L2
section
variable {K : PySem.W.Frag} {ta : TA} {te tl : TE} {g : TG} {tb t u : TS} {c : TT} {D : Ends} {σ : L2.St} {H H' : Hp}
theorem asg_ext {v : V} {i : Nat} (he : ∀ R : VK, (∀ H', Same H H' → R v H') → te σ H R) (h : ∀ H', Same H H' → D.nx (σ.set i (some v)) H') : tAsg te (gName i) D σ H := he _ h
theorem if_ext {b : Bool} (hc : ∀ R : Bool → Hp → Prop, (∀ H', Same H H' → R b H') → c σ H R) (h1 : b = true → ∀ H', Same H H' → t D σ H') (h2 : b = false → ∀ H', Same H H' → u D σ H') : tIfS c t u D σ H :=
  hc _ fun H' s => iteB (fun e => h1 e H' s) (fun e => h2 e H' s)
theorem same_new {p : Addr} {o : HO} (h : H p = none) : Same H (upd H p o) := fun b x e => by
  rw [upd_ne (ne_of_none e h)]
  exact e
theorem sizes {n : Nat} (h : n ≤ 100000) : n ≤ sizeLine := Nat.le_trans h (by decide)
theorem sizel {n : Nat} (h : n < 100000) : n < sizeLine := Nat.lt_of_lt_of_le h (by decide)
end
end RS
namespace RS
open PySem PySem.Spec PyProof.Rows L2
/-- an if behind which the ways meet: D is a letter in both -/
theorem if_join {c : TT} {t u : TS} {D : Ends} {σ : L2.St} {H : Hp} {b : Bool} (P : L2.St → Hp → Prop) (hc : ∀ R : Bool → Hp → Prop, (∀ H', Same H H' → R b H') → c σ H R)
    (h1 : b = true → ∀ H', Same H H' → ∀ D' : Ends, D'.rt = D.rt → D'.bk = D.bk → D'.ct = D.ct → (∀ σ' H', P σ' H' → D'.nx σ' H') → t D' σ H')
    (h2 : b = false → ∀ H', Same H H' → ∀ D' : Ends, D'.rt = D.rt → D'.bk = D.bk → D'.ct = D.ct → (∀ σ' H', P σ' H' → D'.nx σ' H') → u D' σ H')
    (rest : ∀ σ' H', P σ' H' → D.nx σ' H') : tIfS c t u D σ H :=
  hc _ fun H' s => iteB (fun e => h1 e H' s D rfl rfl rfl rest) (fun e => h2 e H' s D rfl rfl rfl rest)
end RS
namespace RS
open PySem PySem.Spec PyProof.Rows L2
section
variable {K : PySem.W.Frag} {ta : TA} {te tl : TE} {g : TG} {tb t u : TS} {c : TT} {D : Ends} {σ : L2.St} {H H' : Hp}
/-- what is known of the value and the heap behind it: P -/
theorem asg_any {i : Nat} (P : V → Hp → Prop) (he : ∀ R : VK, (∀ v H', P v H' → R v H') → te σ H R) (h : ∀ v H', P v H' → D.nx (σ.set i (some v)) H') : tAsg te (gName i) D σ H := he _ h
theorem ret_any (P : V → Hp → Prop) (he : ∀ R : VK, (∀ v H', P v H' → R v H') → te σ H R) (h : ∀ v H', P v H' → D.rt v H') : tRet te D σ H := he _ h
theorem drop_any (P : V → Hp → Prop) (he : ∀ R : VK, (∀ v H', P v H' → R v H') → te σ H R) (h : ∀ v H', P v H' → D.nx σ H') : tDrop te D σ H := he _ h
theorem if_any {b : Bool} (P : Hp → Prop) (hc : ∀ R : Bool → Hp → Prop, (∀ H', P H' → R b H') → c σ H R) (h1 : b = true → ∀ H', P H' → t D σ H') (h2 : b = false → ∀ H', P H' → u D σ H') : tIfS c t u D σ H :=
  hc _ fun H' s => iteB (fun e => h1 e H' s) (fun e => h2 e H' s)
theorem for_rng3 {a b c : Int} {n : Nat} (hta : ∀ R : List V → Hp → Prop, R [.int a, .int b, .int c] H' → ta σ H R) (hn : RgC a b c n) (Pv : Nat → L2.St → Hp → Prop) (h0 : Pv 0 σ H')
    (hs : ∀ (i : Nat) σ H, i < n → Pv i σ H → g (.int (a + (i : Int) * c)) σ H fun σ2 H2 => tb { D with nx := Pv (i + 1), ct := Pv (i + 1), bk := D.nx } σ2 H2) (hd : ∀ σ H, Pv n σ H → D.nx σ H) : tFor (iRng3 ta) g tb D σ H :=
  hta _ ⟨a, b, c, n, rfl, hn, for_rangeC Pv h0 hs hd⟩
end
theorem rgc_2 {N : Int} (h1 : 0 < N) (h2 : N ≤ 100000) : RgC 0 N 2 ((N - 1) / 2 + 1).toNat := by
  have e : Builtin.Range.rangeSize 0 N 2 = (N - 1) / 2 + 1 := by
    unfold Builtin.Range.rangeSize
    rw [if_pos (by decide), if_pos h1, Int.sub_zero]
  refine ⟨by decide, by decide, ?_, by rw [e]; omega⟩
  unfold Builtin.Range.small
  rw [e]
  simp only [Builtin.Range.rangeFitsLong, Bool.and_eq_true, Bool.or_eq_true, decide_eq_true_eq, beq_iff_eq, show ((2 : Int) > 0) by decide, if_true]
  omega
theorem rgc_4 {N : Int} (h1 : 0 < N) (h2 : N ≤ 100000) : RgC 0 N 4 ((N - 1) / 4 + 1).toNat := by
  have e : Builtin.Range.rangeSize 0 N 4 = (N - 1) / 4 + 1 := by
    unfold Builtin.Range.rangeSize
    rw [if_pos (by decide), if_pos h1, Int.sub_zero]
  refine ⟨by decide, by decide, ?_, by rw [e]; omega⟩
  unfold Builtin.Range.small
  rw [e]
  simp only [Builtin.Range.rangeFitsLong, Bool.and_eq_true, Bool.or_eq_true, decide_eq_true_eq, beq_iff_eq, show ((4 : Int) > 0) by decide, if_true]
  omega
theorem tyOf_same {H H' : Hp} {x : V} {s : Ty} (h : tyOf H x = some s) (e : Same H H') : tyOf H' x = some s := by
  cases x with
  | ref a =>
    have h' : (H a).bind hoTy = some s := h
    show (H' a).bind hoTy = some s
    cases q : H a with
    | none => rw [q] at h'; cases h'
    | some o => rw [e a o q]; rw [q] at h'; exact h'
  | _ => exact h
theorem tyOf_at {H : Hp} {a : Addr} {o : HO} {s : Ty} (h : H a = some o) (e : hoTy o = some s) : tyOf H (.ref a) = some s := by
  show (H a).bind hoTy = some s
  rw [h]; exact e
end RS
namespace RS
open PySem PySem.Spec PyProof.Rows L2
section
variable {K : PySem.W.Frag} {tl : TE} {g : TG} {tb : TS} {D : Ends} {σ : L2.St} {H H' : Hp}
/-- a for over a list that is made there: what is known of it and the heap is P -/
theorem for_any (P : Addr → List V → Hp → Prop) (htl : ∀ R : VK, (∀ a xs H', P a xs H' → R (.ref a) H') → tl σ H R)
    (hb : ∀ a xs H', P a xs H' → SqL K H' a xs ∧ ∃ Pv : Nat → L2.St → Hp → Prop, Pv 0 σ H' ∧ (∀ i σ H, i ≤ xs.length → Pv i σ H → SqL K H a xs) ∧
      (∀ i x σ H, xs[i]? = some x → Pv i σ H → g x σ H fun σ2 H2 => tb { D with nx := Pv (i + 1), ct := Pv (i + 1), bk := D.nx } σ2 H2) ∧ ∀ σ H, Pv xs.length σ H → D.nx σ H) : tFor (iList K tl) g tb D σ H :=
  htl _ fun a xs H' p => by
    obtain ⟨hx, Pv, h0, hl, hs, hd⟩ := hb a xs H' p
    exact ⟨a, rfl, ⟨xs, hx⟩, for_list Pv h0 hl hs hd⟩
end
end RS
namespace RS
open PySem PySem.Spec PyProof.Rows L2
/-- a while whose test leaves the heap -/
theorem while_step {c : TT} {tb : TS} {D : Ends} {σ : L2.St} {H : Hp} (W : Nat → L2.St → Hp → Prop) (h0 : ∃ m, W m σ H)
    (hs : ∀ m σ H, W m σ H → ∃ b : Bool, (∀ R : Bool → Hp → Prop, R b H → c σ H R) ∧
      (b = true → tb { D with nx := fun σ' H' => ∃ m', m' < m ∧ W m' σ' H', ct := fun σ' H' => ∃ m', m' < m ∧ W m' σ' H', bk := D.nx } σ H) ∧ (b = false → D.nx σ H)) : tWhile c tb D σ H := by
  refine ⟨W, h0, fun m σ H w => ?_⟩
  obtain ⟨b, hc, h1, h2⟩ := hs m σ H w
  exact hc _ (iteB (fun e => ⟨_, fun _ _ z => z, h1 e⟩) h2)
end RS
namespace RS
open PySem PySem.Spec PyProof.Rows L2
/-- for i, x in enumerate(xs): the pair is laid anew -/
theorem for_enum {K : PySem.W.Frag} {ta : TA} {g : TG} {tb : TS} {D : Ends} {σ : L2.St} {H H' : Hp} {a : Addr} {xs : List V} (hta : ∀ R : List V → Hp → Prop, R [.ref a] H' → ta σ H R) (hx : SqL K H' a xs) (Pv : Nat → L2.St → Hp → Prop) (h0 : Pv 0 σ H')
    (hl : ∀ i σ H, Pv i σ H → SqL K H a xs)
    (hs : ∀ i x σ H, xs[i]? = some x → Pv i σ H → ∀ T, H T = none → g (.ref T) σ (upd H T (.tup [.int (i : Nat), x])) fun σ2 H2 => tb { D with nx := Pv (i + 1), ct := Pv (i + 1), bk := D.nx } σ2 H2) (hd : ∀ σ H, Pv xs.length σ H → D.nx σ H) : tFor (iEnum K ta) g tb D σ H := by
  refine hta _ ⟨a, xs, rfl, hx, fun i m σ H => m = xs.length - i ∧ i ≤ xs.length ∧ Pv i σ H, ⟨xs.length, by simp, Nat.zero_le _, h0⟩, ?_⟩
  rintro i m σ H ⟨rfl, hi, p⟩
  have q := hl i σ H p
  by_cases hlt : i < xs.length
  · refine .inr ⟨⟨xs, xs[i], q, by simp [hlt]⟩, Pv (i + 1), fun σ' H' p' => ⟨xs.length - (i + 1), by omega, rfl, hlt, p'⟩, fun v H1 y => ?_⟩
    obtain ⟨T, x, rfl, hT, rfl, hx⟩ := y
    exact hs i x σ H (hx xs q) p T hT
  · have e : i = xs.length := by omega
    subst e
    exact .inl ⟨⟨xs, q, Nat.le_refl _⟩, hd σ H p⟩
end RS
namespace RS
open PySem PySem.Spec PyProof.Rows L2
/-- xs[i] = v -/
theorem set_step {te to ti : TE} {D : Ends} {σ : L2.St} {H H' : Hp} {v : V} {a : Addr} {xs : List V} {z : Int} {j : Nat} (he : ∀ R : VK, R v H' → te σ H R) (ho : ∀ R : VK, R (.ref a) H' → to σ H' R) (hi : ∀ R : VK, R (.int z) H' → ti σ H' R)
    (hx : H' a = some (.lst xs)) (hj : ixN xs.length z = some j) (h : D.nx σ (upd H' a (.lst (xs.set j v)))) : tAsg te (gSub to ti rSetL) D σ H :=
  he _ (ho _ (hi _ ⟨a, xs, z, j, rfl, rfl, hx, hj, h⟩))
theorem var_is {σ : L2.St} {i : Nat} {v : V} (h : σ[i]? = some (some v)) {R : VK} {H : Hp} (r : R v H) : tVar i σ H R := ⟨v, h, r⟩
end RS
namespace RS
open PySem PySem.Spec PyProof.Rows L2
/-- d[k] = v -/
theorem dput_step {td ty tv : TE} {D : Ends} {σ : L2.St} {H H' : Hp} {v : V} {d : Addr} {kvs : List (Key × V)} {k : Key} (hv : ∀ R : VK, R v H' → tv σ H R) (hd : ∀ R : VK, R (.ref d) H' → td σ H' R) (hk : ∀ R : VK, R (kV k) H' → ty σ H' R)
    (hx : H' d = some (.dK kvs)) (hl : kvs.length < sizeLine) (h : D.nx σ (upd H' d (.dK (putK kvs k v)))) : sDPut td ty tv D σ H :=
  hv _ (hd _ (hk _ ⟨d, _, rfl, DPut.k hx hl, h⟩))
end RS
namespace RS
open PySem PySem.Spec PyProof.Rows L2
section
variable {K : PySem.W.Frag} {ta : TA} {te tl : TE} {tt : TT} {vs : List Nat} {σ : L2.St} {H H' : Hp} {Q : VK} {k : Nat}
/-- a comprehension over range(n) that leaves the heap: P by the turn and what is made so far -/
theorem lc_rng1 {j : Int} {n : Nat} (hta : ∀ R : List V → Hp → Prop, R [.int j] H' → ta σ H R) (hj : j = (n : Int)) (hn : n ≤ 100000) (hw : ∀ x, wipe ((wipe σ vs).set k (some x)) vs = wipe σ vs) (P : Nat → List V → Prop) (h0 : P 0 [])
    (hs : ∀ (i : Nat) acc H2, i < n → Same H' H2 → P i acc → ∃ b : Bool, (∀ R : Bool → Hp → Prop, R b H2 → tt ((wipe σ vs).set k (some (.int (i : Int)))) H2 R) ∧
      (b = true → ∃ v, (∀ R : VK, R v H2 → te ((wipe σ vs).set k (some (.int (i : Int)))) H2 R) ∧ P (i + 1) (acc ++ [v])) ∧ (b = false → P (i + 1) acc))
    (hd : ∀ D H3 acc, H' D = none → Same H' H3 → H3 D = some (.lst acc) → P n acc → acc.length ≤ n → Q (.ref D) H3) : tLc (iRng1 ta) (gName k) tt te vs σ H Q := by
  subst hj
  refine hta _ ⟨(n : Int), rfl, ?_, ?_, ?_⟩
  · have : (0 : Int) ≤ n := Int.natCast_nonneg n
    omega
  · omega
  rw [Int.toNat_natCast]
  intro D hD
  refine lc_range (lo := 0) (fun i H2 => Same H' H2 ∧ ∃ acc, H2 D = some (.lst acc) ∧ P i acc ∧ acc.length ≤ i) ⟨same_new hD, [], upd_same, h0, Nat.le_refl _⟩ ?_ ?_
  · rintro i H2 hi ⟨sm, acc, ha, p, hl⟩
    rw [Int.zero_add]
    obtain ⟨b, h1, h2, h3⟩ := hs i acc H2 hi sm p
    refine ⟨hw _, h1 _ ?_⟩
    cases b with
    | true =>
      obtain ⟨v, h4, h5⟩ := h2 rfl
      rw [if_pos rfl]
      refine h4 _ ⟨acc, ha, sizel (by omega), fun b o hb => ?_, _, upd_same, h5, by rw [List.length_append]; simp; omega⟩
      rw [upd_ne (fun z => by rw [z, hD] at hb; cases hb)]; exact sm _ _ hb
    | false =>
      rw [if_neg (by decide)]
      exact ⟨sm, acc, ha, h3 rfl, by omega⟩
  · rintro H2 ⟨sm, acc, ha, p, hl⟩
    exact hd D H2 acc hD sm ha p hl
theorem lc_lst {a : Addr} {xs : List V} (htl : ∀ R : VK, R (.ref a) H' → tl σ H R) (hx : SqL K H' a xs) (hn : xs.length ≤ 90000) (hw : ∀ x, wipe ((wipe σ vs).set k (some x)) vs = wipe σ vs) (P : Nat → List V → Prop) (h0 : P 0 [])
    (hs : ∀ (i : Nat) x acc H2, xs[i]? = some x → Same H' H2 → P i acc → ∃ b : Bool, (∀ R : Bool → Hp → Prop, R b H2 → tt ((wipe σ vs).set k (some x)) H2 R) ∧
      (b = true → ∃ v, (∀ R : VK, R v H2 → te ((wipe σ vs).set k (some x)) H2 R) ∧ P (i + 1) (acc ++ [v])) ∧ (b = false → P (i + 1) acc))
    (hd : ∀ D H3 acc, H' D = none → Same H' H3 → H3 D = some (.lst acc) → P xs.length acc → acc.length ≤ xs.length → Q (.ref D) H3) : tLc (iList K tl) (gName k) tt te vs σ H Q := by
  refine htl _ ⟨a, rfl, ⟨xs, hx⟩, ?_⟩
  intro D hD
  refine lc_list (xs := xs) (fun i H2 => Same H' H2 ∧ ∃ acc, H2 D = some (.lst acc) ∧ P i acc ∧ acc.length ≤ i) ⟨same_new hD, [], upd_same, h0, Nat.le_refl _⟩ (fun i H2 _ p => p.1.seq hx) ?_ ?_
  · rintro i x H2 hi ⟨sm, acc, ha, p, hl⟩
    have hlt := (List.getElem?_eq_some_iff.mp hi).1
    obtain ⟨b, h1, h2, h3⟩ := hs i x acc H2 hi sm p
    refine ⟨hw _, h1 _ ?_⟩
    cases b with
    | true =>
      obtain ⟨v, h4, h5⟩ := h2 rfl
      rw [if_pos rfl]
      refine h4 _ ⟨acc, ha, sizel (by omega), fun b o hb => ?_, _, upd_same, h5, by rw [List.length_append]; simp; omega⟩
      rw [upd_ne (fun z => by rw [z, hD] at hb; cases hb)]; exact sm _ _ hb
    | false =>
      rw [if_neg (by decide)]
      exact ⟨sm, acc, ha, h3 rfl, by omega⟩
  · rintro H2 ⟨sm, acc, ha, p, hl⟩
    exact hd D H2 acc hD sm ha p hl
end
end RS
namespace RS
open PySem PySem.Spec PyProof.Rows L2
theorem for_tp {K : PySem.W.Frag} {tl : TE} {g : TG} {tb : TS} {D : Ends} {σ : L2.St} {H H' : Hp} {a : Addr} {xs : List V} (htl : ∀ R : VK, R (.ref a) H' → tl σ H R) (hx : SqT K H' a xs) (Pv : Nat → L2.St → Hp → Prop) (h0 : Pv 0 σ H') (hl : ∀ i σ H, i ≤ xs.length → Pv i σ H → SqT K H a xs)
    (hs : ∀ i x σ H, xs[i]? = some x → Pv i σ H → g x σ H fun σ2 H2 => tb { D with nx := Pv (i + 1), ct := Pv (i + 1), bk := D.nx } σ2 H2) (hd : ∀ σ H, Pv xs.length σ H → D.nx σ H) : tFor (iTup K tl) g tb D σ H :=
  htl _ ⟨a, rfl, ⟨xs, hx⟩, for_tup Pv h0 hl hs hd⟩
end RS
namespace RS
open PySem PySem.Spec PyProof.Rows L2
theorem seqT_of {K : PySem.W.Frag} {H H' : Hp} {a : Addr} {xs : List V} (e : Same H H') (h : SqT K H a xs) : SqT K H' a xs := by
  rcases h with (h | ⟨o, h⟩) | h
  · exact .inl (.inl (e _ _ h))
  · exact .inl (.inr ⟨o, e _ _ h⟩)
  · exact .inr h
end RS
namespace RS
open PySem PySem.Spec PyProof.Rows L2
theorem gtup2 {K : PySem.W.Frag} {i j : Nat} {p : Addr} {x y : V} {σ : L2.St} {H : Hp} {Q : L2.St → Hp → Prop} (h : H p = some (.tup [x, y])) (q : Q ((σ.set i (some x)).set j (some y)) H) : gTup K 2 (gCons (gName i) (gCons (gName j) gNil)) (.ref p) σ H Q :=
  ⟨p, _, rfl, .inl (.inl h), rfl, ⟨_, _, rfl, ⟨_, _, rfl, rfl, q⟩⟩⟩
end RS
namespace RS
open PySem PySem.Spec PyProof.Rows L2
theorem nxt_seq {a b : TS} {D0 : Ends} {σ : L2.St} {H : Hp} {r : VK} {bk ct : L2.St → Hp → Prop} (h : a { D0 with nx := b D0 } σ H) : tNext { nx := tSeq a b D0, rt := r, bk := bk, ct := ct } σ H := h
end RS
namespace RS
open PySem PySem.Spec PyProof.Rows L2
theorem nx_at {F : L2.St → Hp → Prop} {σ : L2.St} {H : Hp} {r : VK} {bk ct : L2.St → Hp → Prop} (h : F σ H) : Ends.nx { nx := F, rt := r, bk := bk, ct := ct } σ H := h
end RS
namespace RS
open PySem PySem.Spec PyProof.Rows L2
theorem ty_list {K : PySem.W.Frag} {H : Hp} {a : Addr} {xs : List V} (h : SqL K H a xs) : tyV K "list" (.ref a) H := .inl ⟨rfl, xs, h⟩
end RS
namespace RS
open PySem PySem.Spec PyProof.Rows L2
theorem asg_tup2 {K : PySem.W.Frag} {te : TE} {D : Ends} {σ : L2.St} {H : Hp} {i j : Nat} (P : V → V → Hp → Prop) (he : ∀ R : VK, (∀ t u w H', H' t = some (.tup [u, w]) → P u w H' → R (.ref t) H') → te σ H R) (h : ∀ u w H', P u w H' → D.nx ((σ.set i (some u)).set j (some w)) H') :
    tAsg te (gTup K 2 (gCons (gName i) (gCons (gName j) gNil))) D σ H := he _ fun _ _ _ H' e p => gtup2 e (h _ _ H' p)
end RS
namespace RS
open PySem PySem.Spec PyProof.Rows L2
/-- an if behind which the ways meet, its test leaving the heap -/
theorem if_joinE {c : TT} {t u : TS} {D : Ends} {σ : L2.St} {H H' : Hp} {b : Bool} (P : L2.St → Hp → Prop) (hc : ∀ R : Bool → Hp → Prop, R b H' → c σ H R)
    (h1 : b = true → ∀ D' : Ends, D'.rt = D.rt → D'.bk = D.bk → D'.ct = D.ct → (∀ σ' H', P σ' H' → D'.nx σ' H') → t D' σ H')
    (h2 : b = false → ∀ D' : Ends, D'.rt = D.rt → D'.bk = D.bk → D'.ct = D.ct → (∀ σ' H', P σ' H' → D'.nx σ' H') → u D' σ H')
    (rest : ∀ σ' H', P σ' H' → D.nx σ' H') : tIfS c t u D σ H :=
  hc _ (iteB (fun e => h1 e D rfl rfl rfl rest) (fun e => h2 e D rfl rfl rfl rest))
end RS
namespace RS
open PySem PySem.Spec PyProof.Rows L2
/-- for x, y in zip(xs, ys), lists of one length -/
theorem for_zip2 {K : PySem.W.Frag} {ta : TA} {tb : TS} {D : Ends} {σ : L2.St} {H H' : Hp} {i j : Nat} {a b : Addr} {xs ys : List V} (hta : ∀ R : List V → Hp → Prop, R [.ref a, .ref b] H' → ta σ H R) (hx : SqL K H' a xs) (hy : SqL K H' b ys) (hl : xs.length = ys.length) (Pv : Nat → L2.St → Hp → Prop) (h0 : Pv 0 σ H')
    (hq : ∀ i σ H, Pv i σ H → SqL K H a xs ∧ SqL K H b ys) (hs : ∀ k x y σ H, xs[k]? = some x → ys[k]? = some y → Pv k σ H → ∀ H2, Same H H2 → tb { D with nx := Pv (k + 1), ct := Pv (k + 1), bk := D.nx } ((σ.set i (some x)).set j (some y)) H2) (hd : ∀ σ H, Pv xs.length σ H → D.nx σ H) :
    tFor (iZip K ta) (gTup K 2 (gCons (gName i) (gCons (gName j) gNil))) tb D σ H :=
  hta _ ⟨a, b, xs, ys, rfl, hx, hy, RZ.for_zipL hl Pv h0 hq (fun k x y T σ H ex ey p hT => gtup2 upd_same (hs k x y σ H ex ey p _ (same_new hT))) hd⟩
end RS
namespace RS
open PySem PySem.Spec PyProof.Rows L2
theorem asg_lst3 {K : PySem.W.Frag} {te : TE} {D : Ends} {σ : L2.St} {H : Hp} {i j k : Nat} (P : V → V → V → Hp → Prop) (he : ∀ R : VK, (∀ t u w z H', H' t = some (.lst [u, w, z]) → P u w z H' → R (.ref t) H') → te σ H R) (h : ∀ u w z H', P u w z H' → D.nx (((σ.set i (some u)).set j (some w)).set k (some z)) H') :
    tAsg te (gLst K 3 (gCons (gName i) (gCons (gName j) (gCons (gName k) gNil)))) D σ H := he _ fun t _ _ _ H' e p => ⟨t, _, rfl, .inl (.inl e), rfl, ⟨_, _, rfl, ⟨_, _, rfl, ⟨_, _, rfl, rfl, h _ _ _ H' p⟩⟩⟩⟩
end RS
/-! ### a ring of seats as a list -/
namespace RS
open PySem PySem.Spec PyProof.Rows L2
def ov : Option Int → V
  | .none => .non
  | .some g => .int g
theorem ov_non : ov none = .non := rfl
theorem ov_some {g : Int} : ov (some g) = .int g := rfl
theorem ov_inj {a b : Option Int} (h : ov a = ov b) : a = b := by
  cases a <;> cases b <;> simp [ov] at h ⊢
  exact h
def row (n : Nat) (f : Nat → Option Int) : List V := (List.range n).map fun p => ov (f p)
theorem row_len {n : Nat} {f : Nat → Option Int} : (row n f).length = n := by unfold row; rw [List.length_map, List.length_range]
theorem row_get {n : Nat} {f : Nat → Option Int} {p : Nat} (hp : p < n) : (row n f)[p]? = some (ov (f p)) := by
  unfold row; rw [List.getElem?_map, List.getElem?_range hp]; rfl
theorem row_some {n : Nat} {f : Nat → Option Int} {p : Nat} {v : V} (h : (row n f)[p]? = some v) : p < n ∧ v = ov (f p) := by
  have hp : p < n := by
    have := (List.getElem?_eq_some_iff.mp h).1
    rw [row_len] at this; exact this
  rw [row_get hp] at h
  exact ⟨hp, (Option.some.inj h).symm⟩
theorem row_ext {n : Nat} {f f' : Nat → Option Int} (h : ∀ p, p < n → f p = f' p) : row n f = row n f' := by
  unfold row
  exact List.map_congr_left fun p hp => by rw [h p (List.mem_range.mp hp)]
theorem row_inj {n : Nat} {f f' : Nat → Option Int} (h : row n f = row n f') (p : Nat) (hp : p < n) : f p = f' p := by
  have := row_get (f := f) hp
  rw [h, row_get hp] at this
  exact (ov_inj (Option.some.inj this)).symm
theorem row_set {n : Nat} {f : Nat → Option Int} {p : Nat} {v : Option Int} : (row n f).set p (ov v) = row n (Ring.fup f p v) := by
  refine List.ext_getElem? fun q => ?_
  by_cases hq : q < n
  · rw [row_get hq, List.getElem?_set]
    by_cases w : p = q
    · subst w; rw [if_pos rfl, if_pos (by rw [row_len]; exact hq), Ring.fup_same]
    · rw [if_neg w, row_get hq, Ring.fup_ne (fun e => w e.symm)]
  · rw [List.getElem?_eq_none (by rw [List.length_set, row_len]; omega), List.getElem?_eq_none (by rw [row_len]; omega)]
theorem row_none {n : Nat} : (List.replicate n [V.non]).flatten = row n fun _ => none := by
  refine List.ext_getElem? fun q => ?_
  have e : (List.replicate n [V.non]).flatten = List.replicate n V.non := by
    induction n with
    | zero => rfl
    | succ n ih => rw [List.replicate_succ, List.flatten_cons, ih]; rfl
  rw [e]
  by_cases hq : q < n
  · rw [row_get hq, List.getElem?_replicate, if_pos hq]; rfl
  · rw [List.getElem?_eq_none (by rw [List.length_replicate]; omega), List.getElem?_eq_none (by rw [row_len]; omega)]
theorem row_at {n : Nat} {f : Nat → Option Int} {p : Nat} (hp : p < n) : atI (row n f) (p : Int) = some (ov (f p)) := at_of (j := p) rfl (row_get hp)
theorem row_ix {n : Nat} {f : Nat → Option Int} {p : Nat} (hp : p < n) : ixN (row n f).length (p : Int) = some p := by
  rw [row_len]; unfold ixN; rw [if_pos (by omega), if_pos (by omega), Int.toNat_natCast]
/-- a heap but for one list -/
def Off (a : Addr) (H H' : Hp) : Prop := ∀ b o, b ≠ a → H b = some o → H' b = some o
theorem Off.refl {a : Addr} {H : Hp} : Off a H H := fun _ _ _ h => h
theorem Off.trans {a : Addr} {H H1 H2 : Hp} (x : Off a H H1) (y : Off a H1 H2) : Off a H H2 := fun b o hb h => y b o hb (x b o hb h)
theorem Off.same {a : Addr} {H H' : Hp} (x : Same H H') : Off a H H' := fun b o _ h => x b o h
theorem Off.upd {a : Addr} {H : Hp} {o : HO} : Off a H (upd H a o) := fun b o hb h => by rw [upd_ne hb]; exact h
end RS
namespace RS
open PySem PySem.Spec PyProof.Rows L2
theorem upd_id {H : Hp} {a : Addr} {o : HO} (h : H a = some o) : upd H a o = H := by
  funext b
  by_cases e : b = a
  · subst e; rw [upd_same, h]
  · rw [upd_ne e]
theorem row_put {n : Nat} {f : Nat → Option Int} {p : Nat} {g : Int} : (row n f).set p (.int g) = row n (Ring.fup f p (some g)) := row_set (v := some g)
theorem row_open {n : Nat} {f : Nat → Option Int} {p : Nat} : (row n f).set p .non = row n (Ring.fup f p none) := row_set (v := none)
end RS
namespace RS
open PySem PySem.Spec PyProof.Rows L2
theorem in_none {n : Nat} {f : Nat → Option Int} : inV .non (row n f) = true ↔ ∃ e, e < n ∧ f e = none := by
  unfold inV row
  rw [List.any_eq_true]
  constructor
  · rintro ⟨x, hx, e⟩
    obtain ⟨p, hp, rfl⟩ := List.mem_map.mp hx
    refine ⟨p, List.mem_range.mp hp, ?_⟩
    cases h : f p with
    | none => rfl
    | some g => rw [h] at e; cases e
  · rintro ⟨p, hp, e⟩
    exact ⟨_, List.mem_map.mpr ⟨p, List.mem_range.mpr hp, rfl⟩, by rw [e]; rfl⟩
theorem row_flat {n : Nat} {f : Nat → Option Int} : (row n f).all flatV = true := by
  unfold row
  rw [List.all_eq_true]
  intro x hx
  obtain ⟨p, hp, rfl⟩ := List.mem_map.mp hx
  cases f p <;> rfl
theorem some_ints {ns : List Int} {ys : List V} (h : ∀ y ∈ ys, y ∈ ns.map V.int) : ∃ cs : List Int, ys = cs.map V.int := by
  induction ys with
  | nil => exact ⟨[], rfl⟩
  | cons y ys ih =>
    obtain ⟨cs, rfl⟩ := ih fun z hz => h z (List.mem_cons_of_mem _ hz)
    obtain ⟨c, _, rfl⟩ := List.mem_map.mp (h y List.mem_cons_self)
    exact ⟨c :: cs, rfl⟩
theorem in_some {n : Nat} {f : Nat → Option Int} {g : Int} : inV (.int g) (row n f) = true ↔ Ring.Sits n f g := by
  unfold inV row Ring.Sits
  rw [List.any_eq_true]
  constructor
  · rintro ⟨x, hx, e⟩
    obtain ⟨p, hp, rfl⟩ := List.mem_map.mp hx
    refine ⟨p, List.mem_range.mp hp, ?_⟩
    cases h : f p with
    | none => rw [h] at e; cases e
    | some y => rw [h] at e; rw [show y = g from of_decide_eq_true e]
  · rintro ⟨p, hp, e⟩
    exact ⟨_, List.mem_map.mpr ⟨p, List.mem_range.mpr hp, rfl⟩, by rw [e]; exact decide_eq_true rfl⟩
/-- where the look ends -/
theorem loc_ex {n : Nat} {f : Nat → Option Int} {g : Int} (hn : 0 < n) (he : ∃ e, e < n ∧ f e = none) : ∃ p, p < n ∧ Ring.Loc n (hm n) f g p := by
  obtain ⟨e, he, h0⟩ := he
  have hh := hm_lt hn
  have key : ∀ (m p : Nat), p < n → Ring.Car n (hm n) f g p → Ring.far n p e = m → ∃ p, p < n ∧ Ring.Loc n (hm n) f g p := by
    intro m
    induction m with
    | zero =>
      intro p hp c hm0
      have : e = p := Ring.far_zero hp hm0
      subst this
      exact ⟨e, hp, c, fun y hy => by rw [h0] at hy; cases hy⟩
    | succ m ih =>
      intro p hp c hmm
      rcases Ring.loc_or n (hm n) f g p with (h | ⟨y, h, a⟩) | ⟨y, h, a⟩
      · exact ⟨p, hp, c, fun y hy => by rw [h] at hy; cases hy⟩
      · exact ⟨p, hp, c, fun y' hy => by rw [h] at hy; cases hy; exact a⟩
      · have hpe : p ≠ e := fun z => by rw [z, h0] at h; cases h
        exact ih _ (Ring.nx_lt hp) (Ring.car_nx hh hp c h a) (by have := Ring.far_to hp he hpe; omega)
  exact key _ _ (hh g) Ring.car_home rfl
end RS
/-! ### == of lists and tuples of flat things -/
namespace RS
open PySem PySem.Spec PyProof.Rows L2
def datV : V → PyData
  | .bl b => .bool b | .int i => .int i | _ => .none
/-- none, truths, whole numbers -/
def flD : V → Bool
  | .non => true | .bl _ => true | .int _ => true | _ => false
theorem dp_flat {K : PySem.W.Frag} {H : Hp} : ∀ v : V, flD v = true → Dp K H v (datV v) := by
  intro v h
  cases v with
  | non => exact .non
  | bl b => exact .bl b
  | int i => exact .int i
  | _ => cases h
theorem dp_all {K : PySem.W.Frag} {H : Hp} : ∀ xs : List V, xs.all flD = true → DpAll K H xs (xs.map datV)
  | [], _ => .nil
  | x :: xs, h => by
    rw [List.all_cons, Bool.and_eq_true] at h
    exact .cons (dp_flat x h.1) (dp_all xs h.2)
theorem row_flD {n : Nat} {f : Nat → Option Int} : (row n f).all flD = true := by
  unfold row
  rw [List.all_eq_true]
  intro x hx
  obtain ⟨p, hp, rfl⟩ := List.mem_map.mp hx
  cases f p <;> rfl
theorem lay_all : ∀ xs : List V, PyData.canLayAll0 (xs.map datV) = true ∧ PyData.depthAll (xs.map datV) = 0
  | [] => ⟨rfl, rfl⟩
  | x :: xs => by
    obtain ⟨h1, h2⟩ := lay_all xs
    rw [List.map_cons, PyData.canLayAll0, PyData.depthAll, h1, h2]
    cases x <;> exact ⟨by simp [datV, PyData.canLay0], by simp [datV, PyData.depth]⟩
theorem shp_lst (xs : List V) : SeqAt.shaped (.list (xs.map datV)) = true := by
  obtain ⟨h1, h2⟩ := lay_all xs
  unfold SeqAt.shaped
  rw [PyData.canLay0, PyData.depth, h1, h2]; rfl
theorem shp_tup (xs : List V) : SeqAt.shaped (.tuple (xs.map datV)) = true := by
  obtain ⟨h1, h2⟩ := lay_all xs
  unfold SeqAt.shaped
  rw [PyData.canLay0, PyData.depth, h1, h2]; rfl
section
variable {K : PySem.W.Frag} {H : Hp} {a b : Addr} {xs : List V} {R : VK}
theorem eqD_lst (hx : SqL K H a xs) (hy : SqL K H b xs) (hf : xs.all flD = true) (r : R (.bl true) H) : rEqD K (.ref a) (.ref b) H R := by
  refine ⟨_, _, .lst hx (dp_all xs hf), .lst hy (dp_all xs hf), shp_lst xs, shp_lst xs, ?_⟩
  rw [SeqAt.eqv_refl _ (SeqAt.canLay_of_shaped (shp_lst xs))]; exact r
theorem neD_lst (hx : SqL K H a xs) (hy : SqL K H b xs) (hf : xs.all flD = true) (r : R (.bl false) H) : rNeD K (.ref a) (.ref b) H R := by
  refine ⟨_, _, .lst hx (dp_all xs hf), .lst hy (dp_all xs hf), shp_lst xs, shp_lst xs, ?_⟩
  rw [SeqAt.eqv_refl _ (SeqAt.canLay_of_shaped (shp_lst xs))]; exact r
theorem eqD_tup (hx : SqT K H a xs) (hy : SqT K H b xs) (hf : xs.all flD = true) (r : R (.bl true) H) : rEqD K (.ref a) (.ref b) H R := by
  refine ⟨_, _, .tup hx (dp_all xs hf), .tup hy (dp_all xs hf), shp_tup xs, shp_tup xs, ?_⟩
  rw [SeqAt.eqv_refl _ (SeqAt.canLay_of_shaped (shp_tup xs))]; exact r
theorem neD_tup (hx : SqT K H a xs) (hy : SqT K H b xs) (hf : xs.all flD = true) (r : R (.bl false) H) : rNeD K (.ref a) (.ref b) H R := by
  refine ⟨_, _, .tup hx (dp_all xs hf), .tup hy (dp_all xs hf), shp_tup xs, shp_tup xs, ?_⟩
  rw [SeqAt.eqv_refl _ (SeqAt.canLay_of_shaped (shp_tup xs))]; exact r
theorem eqD_nil {x : V} (hx : SqL K H a (x :: xs)) (hy : SqL K H b []) (hf : (x :: xs).all flD = true) (r : R (.bl false) H) : rEqD K (.ref a) (.ref b) H R := by
  refine ⟨_, _, .lst hx (dp_all _ hf), .lst hy .nil, shp_lst _, shp_lst [], ?_⟩
  rw [show PyData.eqv (.list ((x :: xs).map datV)) (.list []) = false by simp [PyData.eqv, PyData.eqvAll]]; exact r
end
end RS
/-! ### xs[lo:hi:k]: a new list of some of its items -/
namespace RS
open PySem PySem.Spec PyProof.Rows L2
theorem vals_pick {xs : List V} {its : List Value} (r : Vals xs its) : ∀ idx : List Nat, Vals (idx.filterMap (xs[·]?)) (idx.filterMap (its[·]?))
  | [] => .nil
  | i :: idx => by
    cases e : xs[i]? with
    | none =>
      have e2 : its[i]? = none := by
        rw [List.getElem?_eq_none_iff] at e ⊢
        rw [← r.length]; exact e
      rw [List.filterMap_cons_none e, List.filterMap_cons_none e2]
      exact vals_pick r idx
    | some x =>
      obtain ⟨u, e2, rx⟩ := r.get e
      rw [List.filterMap_cons_some e, List.filterMap_cons_some e2]
      exact .cons rx (vals_pick r idx)
def tStepL (K : PySem.W.Frag) (te : TE) (tl th ts : TO) : TE := fun σ H Q => te σ H fun x H1 => tl σ H1 fun _ H2 => th σ H2 fun _ H3 => ts σ H3 fun k H4 => ∃ a xs, x = .ref a ∧ SqL K H4 a xs ∧ k ≠ some 0 ∧
  ∀ p, H4 p = none → ∀ ys : List V, (∀ y ∈ ys, y ∈ xs) → ys.length ≤ xs.length → Q (.ref p) (upd H4 p (.lst ys))
section
variable {X : Cx} {e : Expr} {te : TE} {lo hi : Option Expr} {st : Expr} {tl th ts : TO} {pos p2 : Pos}
theorem pe_stepL (he : PE X e te) (hl : PO X lo tl) (hu : PO X hi th) (hk : PO X (some st) ts) : PE X (.Subscript e (.Slice lo hi (some st) p2) pos) (tStepL X.K te tl th ts) := by
  refine ⟨fun pins s σ H Q I h => ?_⟩
  refine Subscript_ (thn (he.run pins s σ H _ I h) fun v s1 ⟨x, H1, I1, r1, q1⟩ => ?_)
  refine wpAny_Slice (thn (hl.run pins s1 σ H1 _ I1 q1) fun vl s2 ⟨l, H2, I2, pl, q2⟩ => thn (hu.run pins s2 σ H2 _ I2 q2) fun vu s3 ⟨u, H3, I3, pu, q3⟩ => thn (hk.run pins s3 σ H3 _ I3 q3) fun vk s4 ⟨k, H4, I4, pk, q4⟩ => ?_)
  obtain ⟨a, xs, rfl, hx, hk0, q⟩ := q4
  cases r1
  have I5 : Inv X pins σ H4 { s4 with heap := s4.heap.push { cls := .type "slice", data := .fields #[vl, vu, vk] } } := I4.kept (t' := s4.toks) fun b ob q => Heap.get?_push_of_some _ q
  obtain ⟨its, r, ht, hz⟩ := I5.list hx
  show wpAny (model X.prog X.w) X.A (subscriptTail e (.Slice lo hi (some st) p2) (.ref a) (.ref s4.heap.objs.size)) (EP X pins σ Q) X.xe { s4 with heap := s4.heap.push { cls := .type "slice", data := .fields #[vl, vu, vk] } }
  refine tail_any (ops := [.ref a, .ref s4.heap.objs.size]) ht.isList.typeIs slot_list_getitem.lookup ?_ (by with_unfolding_all rfl)
  refine wpAny_getItem_list_slice ht.isList (Heap.IsSliceOf.new ..) pl pu pk hk0 ?_ (by rw [List.size_toArray, ← r.length]; exact hz)
  have hv := vals_pick r (sliceRange (sliceBounds l u k its.toArray.size).1 (sliceBounds l u k its.toArray.size).2.1 (sliceBounds l u k its.toArray.size).2.2)
  have hsl := slicePick_size_le its.toArray l u k
  have he : (slicePick its.toArray l u k).toList = (sliceRange (sliceBounds l u k its.toArray.size).1 (sliceBounds l u k its.toArray.size).2.1 (sliceBounds l u k its.toArray.size).2.2).filterMap (its[·]?) := by
    unfold slicePick
    simp
  rw [← he] at hv
  have hlen := hv.length
  rw [← Array.length_toList, List.size_toArray, ← r.length] at hsl
  refine ⟨.ref _, _, I5.laid (t' := s4.toks) (o := .lst _) (fun b ob q => Heap.get?_push_of_some _ q) (Nat.le_refl _) ⟨by rw [hlen]; exact Nat.le_trans hsl hz, _, 0, hv, Heap.get?_push_size _ rfl⟩, rfl, q _ (I5.hok.fresh (Nat.le_refl _)) _ (fun y hy => ?_) (by rw [hlen]; exact hsl)⟩
  obtain ⟨i, _, e⟩ := List.mem_filterMap.mp hy
  exact List.mem_of_getElem? e
end
/-! ### list.count, flat items -/
def rCount (K : PySem.W.Frag) : V → List V → Hp → VK → Prop := fun x xs H Q => ∃ (a : Addr) (ys : List V) (y : V), x = V.ref a ∧ xs = [y] ∧ SqL K H a ys ∧ flatV y = true ∧ ys.all flatV = true ∧ Q (.int ((ys.countP fun z => eqV z y : Nat) : Int)) H
theorem count_rel {y : V} : ∀ {ys : List V} {its : List Value}, Vals ys its → ys.all flatV = true → its.countP (eqU y) = ys.countP fun z => eqV z y
  | [], _, r, _ => by cases r; rfl
  | z :: ys, _, r, f => by
    cases r with
    | cons r1 r2 =>
      rw [List.all_cons, Bool.and_eq_true] at f
      rw [List.countP_cons, List.countP_cons, count_rel r2 f.2, eqU_of r1 f.1]
theorem mt_countL {X : Cx} : MtR X "list.count" (rCount X.K) := by
  intro pins s σ H x xs v us Q I rx rxs h
  obtain ⟨a, ys, y, rfl, rfl, hs, fy, fys, q⟩ := h
  cases rx
  cases rxs with
  | cons ry rt =>
    rename_i uy ut
    cases rt
    obtain ⟨its, rv, ⟨⟨cls, dd, data, sl⟩, n, ho, hc, hdn, hd⟩, hlen⟩ := I.list hs
    simp only at hc hd
    subst hc hd
    refine call_meets PySem.F.slot_list_count ⟨_, ho, rfl⟩ PySem.F.entry_list_count (PySem.F.args_list_count_2 _ _)
      (SeqAt.list_countAt a its.toArray n dd sl uy (eqU y)) ⟨ho, fun u' hu' => mem_eqAt ry fy rv fys u' (by simpa using hu'), ?_⟩
    refine ⟨.int ((ys.countP fun z => eqV z y : Nat) : Int), H, I.tok _, ⟨s.toks, ?_⟩, q⟩
    rw [← count_rel rv fys]
end RS
/-! ### xs != ys, lists of the very same things -/
namespace RS
open PySem PySem.Spec PyProof.Rows L2
def okV : V → Bool
  | .ref _ => true
  | v => flatB v
def rNeS (K : PySem.W.Frag) : R2 := fun x y H Q => ∃ a b xs, x = .ref a ∧ y = .ref b ∧ SqL K H a xs ∧ SqL K H b xs ∧ xs.all okV = true ∧ Q (.bl false) H
theorem okV_same {A : Around} {s : Shared} : ∀ {xs : List V} {us ws : List Value}, Vals xs us → Vals xs ws → xs.all okV = true → ∀ j (h1 : j < us.length) (h2 : j < ws.length), SeqAt.EqAt A s us[j] ws[j] true
  | [], _, _, r1, r2, _ => by
    intro j h1
    cases r1
    exact absurd h1 (Nat.not_lt_zero j)
  | x :: xs, _, _, r1, r2, f => by
    rw [List.all_cons, Bool.and_eq_true] at f
    cases r1 with
    | cons a1 b1 =>
      cases r2 with
      | cons a2 b2 =>
        intro j h1 h2
        cases j with
        | zero =>
          show SeqAt.EqAt A s _ _ true
          cases x with
          | ref p =>
            cases a1; cases a2
            exact SeqAt.EqAt.same _
          | _ => exact eqAt_same a1 a2 f.1
        | succ j => exact okV_same b1 b2 f.2 j (Nat.lt_of_succ_lt_succ h1) (Nat.lt_of_succ_lt_succ h2)
theorem op_neS {X : Cx} (hu : X.A.units + 64 < cLine) : OpR X (compareOp .NotEq) (rNeS X.K) := by
  intro pins s σ H x y v u Q I rx ry h
  obtain ⟨a, b, xs, rfl, rfl, ha, hb, f, q⟩ := h
  cases (show v = Value.ref a from rx)
  cases (show u = Value.ref b from ry)
  obtain ⟨us, r1, p1, _⟩ := I.list ha
  obtain ⟨ws, r2, p2, _⟩ := I.list hb
  have hsz : us.toArray.size = ws.toArray.size := by
    rw [List.size_toArray, List.size_toArray, ← r1.length, ← r2.length]
  have key := SeqAt.RcNeAt.lists (A := X.A) (e := fun _ => true) p1.isList p2.isList hsz (by omega) (fun j h1 h2 => by
    have := okV_same (A := X.A.in1) (s := s) r1 r2 f j (by simpa using h1) (by simpa using h2)
    simpa using this)
  rw [show ((List.range us.toArray.size).all fun _ => true) = true from List.all_eq_true.mpr fun _ _ => rfl] at key
  exact key _ _ _ _ ⟨.bl false, H, I, rfl, q⟩
/-! ### len(set(xs)), ints -/
def dist (ns : List Int) : List Int := PyProof.Rows.firstMet (fun i => ns.getD i 0) ns.length
theorem dist_nodup {ns : List Int} (h : ns.Nodup) : dist ns = ns := by
  unfold dist
  rw [RZ.firstMet_nodup h ns.length (Nat.le_refl _), List.take_length]
theorem firstMet_has {val : Nat → Int} : ∀ {i j : Nat}, j < i → val j ∈ PyProof.Rows.firstMet val i
  | 0, _, h => absurd h (Nat.not_lt_zero _)
  | i + 1, j, h => by
    rw [PyProof.Rows.firstMet_succ]
    unfold PyProof.Rows.step_dedup
    by_cases e : j = i
    · subst e
      split
      · rename_i hb
        obtain ⟨y, hy, ey⟩ := List.any_eq_true.mp hb
        rw [← show y = val j from eq_of_beq ey]; exact hy
      · simp
    · have := firstMet_has (val := val) (i := i) (j := j) (by omega)
      split
      · exact this
      · exact List.mem_append_left _ this
theorem dist_short {ns : List Int} (h : ¬ ns.Nodup) : (dist ns).length < ns.length := by
  have : ∃ i j, j < i ∧ i < ns.length ∧ ns.getD j 0 = ns.getD i 0 := by
    apply Classical.byContradiction
    intro no
    apply h
    refine List.pairwise_iff_getElem.mpr fun j i hj hi hji e => no ⟨i, j, hji, hi, ?_⟩
    rw [List.getD_eq_getElem?_getD, List.getElem?_eq_getElem hj, List.getD_eq_getElem?_getD, List.getElem?_eq_getElem hi]
    exact e
  obtain ⟨i, j, hji, hi, e⟩ := this
  have step : (PyProof.Rows.firstMet (fun k => ns.getD k 0) (i + 1)).length ≤ i := by
    rw [PyProof.Rows.firstMet_succ]
    unfold PyProof.Rows.step_dedup
    rw [if_pos (List.any_eq_true.mpr ⟨ns.getD j 0, firstMet_has (val := fun k => ns.getD k 0) hji, by rw [e]; exact beq_self_eq_true _⟩)]
    exact PyProof.Rows.firstMet_length_le _ _
  have grow : ∀ k, (PyProof.Rows.firstMet (fun k => ns.getD k 0) (i + 1 + k)).length ≤ i + k := by
    intro k
    induction k with
    | zero => exact step
    | succ k ih =>
      rw [show i + 1 + (k + 1) = (i + 1 + k) + 1 by omega, PyProof.Rows.firstMet_succ]
      unfold PyProof.Rows.step_dedup
      split
      · omega
      · rw [List.length_append, List.length_singleton]; omega
  have := grow (ns.length - (i + 1))
  unfold dist
  rw [show i + 1 + (ns.length - (i + 1)) = ns.length by omega] at this
  omega
def tLenSet (K : PySem.W.Frag) (ta : TE) : TE := fun σ H Q => ta σ H fun x H1 => ∃ (l : Addr) (ns : List Int), x = .ref l ∧ SqL K H1 l (ns.map V.int) ∧ ns.length ≤ 4000 ∧ Q (.int ((dist ns).length : Nat)) H1
theorem pe_lenSet {X : Cx} {a : Expr} {ta : TE} {p p2 q pos : Pos} (hm : X.mg "len" = none) (hm2 : X.mg "set" = none) (ha : PE X a ta) (hg : Gl X "len" := by rfl) (hg2 : Gl X "set" := by rfl) (hc : X.calm = true := by rfl)
    (na : starEach [a] X.env = (false, eval a X.env) :: starEach [] X.env := by rfl) : PE X (.Call (.Name "len" p) [.Call (.Name "set" p2) [a] [] q] [] pos) (tLenSet X.K ta) := by
  refine ⟨fun pins s σ H Q I h => ?_⟩
  refine Call_ (ld_blt I hg hm boot_len ?_)
  refine PyProof.Rows.callWith_builtin1 (PyProof.Rows.args_cons ?_ rfl) rfl rfl
  refine Call_ (ld_blt I hg2 hm2 boot_set ?_)
  refine PyProof.Rows.callWith_type1 (PyProof.Rows.args_cons (thn (ha.run pins s σ H _ I h) fun v s1 ⟨x, H1, I1, r1, q1⟩ => PyProof.Rows.args_nil ?_) na) na rfl
  obtain ⟨l, ns, rfl, hq, hl, q1⟩ := q1
  cases r1
  obtain ⟨its, r, pl, hz⟩ := I1.list hq
  have hlen : its.toArray.size = ns.length := by rw [List.size_toArray, ← r.length, List.length_map]
  refine call_set_list (I1.ok.hd hc) pl.isList (by simpa using RZ.intsAre_vals r) (by rw [hlen]; unfold scanBound; omega) fun h' tk hS hk => ?_
  refine PyProof.Rows.args_nil ?_
  rw [hlen] at hS
  obtain ⟨o, es, ep, t, ho, hex, hd, _, _, _, hf, hn⟩ := hS
  have I2 : Inv X pins σ H1 { s1 with heap := h', toks := tk } := I1.kept fun b o e => hk b o (Heap.lt_size e) e
  have hle := PyProof.Rows.firstMet_length_le (fun i => ns.getD i 0) ns.length
  exact call_len_set ho hex hd hf (by rw [hn] <;> omega) ⟨.int (dist ns).length, H1, I2.tok _, ⟨_, by rw [hn]; rfl⟩, q1⟩
end RS
namespace RS
open PySem PySem.Spec PyProof.Rows L2
abbrev rInsert : V → List V → Hp → VK → Prop := fun x vs H Q => ∃ (l : Addr) (xs : List V) (i : Int) (y : V), x = .ref l ∧ vs = [.int i, y] ∧ H l = some (.lst xs) ∧ xs.length < sizeLine ∧ 0 ≤ i ∧ i < 2 ^ 63 ∧
  Q .non (upd H l (.lst (xs.take i.toNat ++ [y] ++ xs.drop i.toNat)))
theorem map_erase : ∀ (r : List Int) (i : Nat), (r.map V.int).eraseIdx i = (r.eraseIdx i).map V.int
  | [], _ => rfl
  | _ :: _, 0 => rfl
  | x :: r, i + 1 => by
    show V.int x :: (r.map V.int).eraseIdx i = _
    rw [map_erase r i]; rfl
theorem erase_perm : ∀ (r : List Int) (i : Nat) (h : i < r.length), (r[i] :: r.eraseIdx i).Perm r
  | [], _, h => absurd h (Nat.not_lt_zero _)
  | _ :: _, 0, _ => List.Perm.refl _
  | x :: r, i + 1, h => (List.Perm.swap x _ _).trans ((erase_perm r i (Nat.lt_of_succ_lt_succ h)).cons x)
end RS
/-! ### sorted(d.values()), ints; for k, v in d.items() -/
namespace RS
open PySem PySem.Spec PyProof.Rows L2
abbrev rSortedDI : List V → Hp → VK → Prop := fun xs H Q => ∃ (a : Addr) (kvs : List (Key × V)) (ks : List Int), xs = [.ref a] ∧ Rd H a (.dK kvs) ∧ kvs.map (·.1) = ks.map Sum.inl ∧ ks.length < 64 ∧
  ∀ (ys : List Int) (p : Addr), ys.Perm ks → ys.Pairwise (· ≤ ·) → H p = none → Q (.ref p) (upd H p (.lst (ys.map V.int)))
def tSortedVals (td : TE) : TE := fun σ H Q => td σ H fun x H1 => ∃ a kvs is, x = V.ref a ∧ H1 a = some (.dK kvs) ∧ kvs.map (·.2) = is.map V.int ∧ is.length < 64 ∧ ∀ (ys : List Int) (p : Addr), ys.Perm is → ys.Pairwise (· ≤ ·) → H1 p = none → Q (.ref p) (upd H1 p (.lst (ys.map V.int)))
section
variable {X : Cx} {o : Expr} {p pos apos mpos : Pos} {td : TE}
theorem pe_sortedVals (hm : X.mg "sorted" = none) (hd : PE X o td) (hc : X.calm = true := by rfl) (hg : Gl X "sorted" := by rfl) (hbase : attributeBase o "values" X.env (eval o X.env) = eval o X.env := by rfl) (hline : (apos.endLine == mpos.line) = true := by rfl)
    (hse : starEach [Expr.Call (.Attribute o "values" apos) [] [] mpos] X.env = [(false, eval (Expr.Call (.Attribute o "values" apos) [] [] mpos) X.env)] := by rfl) :
    PE X (.Call (.Name "sorted" p) [.Call (.Attribute o "values" apos) [] [] mpos] [] pos) (tSortedVals td) := by
  refine ⟨fun pins s σ H Q I h => ?_⟩
  refine wpAny_Call_Name_kw (ld_blt I hg hm (u := .builtin "sorted") (by first | rfl | decide +kernel) ?_ (by first | decide +kernel | decide) (by first | decide +kernel | decide))
  rw [hse]
  refine PySem.callWith_builtin1 (wpAny_Call_method0_late hbase hline (thn (hd.run pins s σ H _ I h) fun v s1 ⟨x, H1, I1, r1, a, kvs, is, ex, ha, hv, h64, q⟩ => ?_))
  subst ex
  obtain rfl : v = Value.ref a := r1
  obtain ⟨_, hsys, vs, rel, dof⟩ := dk_of I1.hok ha
  obtain ⟨ep, dat⟩ := dof.dictAt
  have dat' := dat
  obtain ⟨ob, es, ho, ex, hdat, hko, hpr, hnd⟩ := dat'
  refine ⟨"dict", "dict.values", F.plainAttrs_dict, F.slot_dict_values, F.type_dict_values, ⟨ob, ho, ex.1⟩, fun b e => ?_, Calls.callWith_builtin rfl (PySem.evalArgs_none ?_)⟩
  · cases e
    exact ⟨ob, ho, ex.2.1⟩
  refine call_meetsIn F.slot_dict_values ⟨ob, ho, ex.1⟩ F.entry_dict_values (F.args_dict_values_1 _) (meets_dict_values (mixKind X.prog X.w) a hsys) ⟨⟨vs, dof⟩, ?_⟩
  have k1 : ∀ b u, s1.heap.get? b = some u → (s1.heap.push { cls := .type "dict_values", data := .fields #[.ref a] }).get? b = some u := fun b u e => Heap.get?_push_of_some _ e
  have dat1 : (s1.heap.push { cls := .type "dict_values", data := .fields #[.ref a] }).DictAt (mixKind X.prog X.w) a vs ep := dat.keep k1
  have hlv : vs.length = is.length := by
    have e1 := congrArg List.length hv
    rw [List.length_map, List.length_map] at e1
    rw [← e1]
    exact (KV.length rel).symm
  have h16 : vs.length ≤ sizeLine := by rw [hlv, sizeLine_eq]; omega
  refine Calls.call_function_entry PyProof.Rows.kind_sorted PyProof.Rows.plain_sorted PyProof.Rows.entry_sorted (PyProof.Rows.args_sorted1 _) ?_
  unfold Builtin.«sorted»
  refine wpAny_bind (m := checkCount "sorted" 1 1 _) (wpAny_pure ?_)
  refine wpAny_bind (PySem.W.kdu_collect (A := X.A.in1) (PySem.W.kdl_values (knd := mixKind X.prog X.w) (r := s1.heap.objs.size) (d := a) (kvs := vs) (ep := ep)) (I.ok.hd hc) ⟨⟨_, Heap.get?_push_size _ rfl, rfl, rfl⟩, dat1⟩ h16 fun h' tk acc hk hacc => ?_)
  have hal : acc.toList.length = is.length := by rw [Array.length_toList, hacc.1, hlv]
  have hS : IntsAre acc.toList is := ints_each hal fun j v e => by
    obtain ⟨k, e1⟩ := hacc.2 j v (by rw [← Array.getElem?_toList]; exact e)
    obtain ⟨x, h1, h2⟩ := KV.at' rel e1
    have e2 : (kvs.map (·.2))[j]? = some x := by rw [List.getElem?_map, h1] <;> rfl
    rw [hv, List.getElem?_map] at e2
    obtain ⟨y, hy, e3⟩ := Option.map_eq_some_iff.mp e2
    subst e3
    obtain ⟨t, e4⟩ := h2
    exact ⟨y, t, hy, e4⟩
  have I2 : Inv X pins σ H1 { s1 with heap := h', toks := tk } := I1.kept fun b u e => hk b u (k1 b u e)
  refine wpAny_bind (wpAny_newList ?_ (by rw [hal, sizeLine_eq]; omega))
  have hoL : (h'.push (seqObj "list" acc.toList.toArray 0)).get? h'.objs.size = some (seqObj "list" acc.toList.toArray 0) := Heap.get?_push_size _ rfl
  show wpAny _ _ _ _ _ { s1 with heap := h'.push (seqObj "list" acc.toList.toArray 0), toks := tk }
  refine wpAny_bind (wpAny_holding (wpAny_call_entry PyProof.Rows.slot_list_sort ⟨_, hoL, rfl⟩ PyProof.Rows.entry_list_sort
    (PyProof.Rows.list_sort_tree (s := { s1 with heap := h'.push (seqObj "list" acc.toList.toArray 0), toks := tk }) hoL hS (by rw [hal]; exact h64) fun out ys g1 g2 g3 => ⟨_, rfl, ?_⟩) (PyProof.Rows.args_list_sort _)))
  obtain ⟨e', he'⟩ := PyProof.Rows.sortedHeap_at (vs := acc.toList) (out := out) hoL
  have hlen : (ys.map V.int).length ≤ sizeLine := by
    rw [List.length_map, g2.length_eq]
    exact Nat.le_trans (Nat.le_of_lt h64) (by decide)
  refine wpAny_pure ⟨_, rfl, .ref h'.objs.size, upd H1 h'.objs.size (.lst (ys.map V.int)), I2.laid (t' := tk) (fun b u e => ?_) (Nat.le_refl _)
    (show ObjOk X.prog X.w _ _ _ (.lst (ys.map V.int)) from ⟨hlen, out.toList, e', vals_of_ints g1, by rw [Array.toArray_toList]; exact he'⟩), rfl, q ys _ g2 g3 (I2.hok.fresh (Nat.le_refl _))⟩
  have hb : b < h'.objs.size := Heap.lt_size e
  rw [PyProof.Rows.sortedHeap_old (Nat.ne_of_lt hb) (by rw [size_push']; exact Nat.lt_succ_of_lt hb)]
  exact Heap.get?_push_of_some _ e
end
/-- for k, v in d.items(), a body that leaves what stands -/
theorem for_items {td : TE} {tb : TS} {D : Ends} {σ : L2.St} {H : Hp} {d : Addr} {kvs : List (Key × V)} {K : PySem.W.Frag} {i j : Nat} (hd : H d = some (.dK kvs)) (htd : ∀ (H' : Hp) (R : VK), R (.ref d) H' → td σ H' R) (Pv : Nat → L2.St → Prop) (h0 : Pv 0 σ)
    (hs : ∀ k key v σ' H', kvs[k]? = some (key, v) → Pv k σ' → ∀ D' : Ends, (∀ σ2 H2, Same H' H2 → Pv (k + 1) σ2 → D'.nx σ2 H2) → tb D' ((σ'.set i (some (kV key))).set j (some v)) H')
    (hend : ∀ σ' H', Pv kvs.length σ' → Same H H' → D.nx σ' H') : tLock (tFor (iItems td) (gTup K 2 (gCons (gName i) (gCons (gName j) gNil))) tb) D σ H := by
  refine ⟨d, _, hd, trivial, fun od => ?_⟩
  have back : ∀ H', Same (upd H d (.frz od (.dK kvs))) H' → H' d = some (.frz od (.dK kvs)) ∧ Same H (upd H' d (.dK kvs)) := fun H' sm => by
    refine ⟨sm _ _ upd_same, fun b o hb => ?_⟩
    by_cases e : b = d
    · subst e; rw [hd] at hb; cases hb; exact upd_same
    · rw [upd_ne e]; exact sm _ _ (by rw [upd_ne e]; exact hb)
  refine htd _ _ ⟨d, od, kvs, rfl, upd_same, fun i' m σ' H' => m = kvs.length - i' ∧ i' ≤ kvs.length ∧ Pv i' σ' ∧ Same (upd H d (.frz od (.dK kvs))) H', ⟨kvs.length, by simp, Nat.zero_le _, h0, Same.refl _⟩, ?_⟩
  rintro i' m σ' H' ⟨rfl, hi, pv, sm⟩
  by_cases hlt : i' < kvs.length
  · refine .inr ⟨⟨(back H' sm).1, hlt⟩, fun σ2 H2 => Pv (i' + 1) σ2 ∧ Same (upd H d (.frz od (.dK kvs))) H2, fun σ2 H2 p' => ⟨kvs.length - (i' + 1), by omega, rfl, hlt, p'.1, p'.2⟩, fun v H1 y => ?_⟩
    obtain ⟨T, k, x, hk, rfl, hT, rfl⟩ := y
    exact gtup2 upd_same (hs i' k x σ' _ hk pv _ fun σ2 H2 s2 p2 => ⟨p2, sm.trans ((same_new hT).trans s2)⟩)
  · have e : i' = kvs.length := by omega
    subst e
    obtain ⟨b1, b2⟩ := back H' sm
    exact .inl ⟨⟨b1, Nat.le_refl _⟩, b1, hend σ' _ pv b2⟩
end RS
/-! ### the program's refusals: five classes over RingError -/
namespace RS
open PySem PySem.Spec PyProof.Rows L2
inductive Ek where
  | noGuest | noSize | twice | away | full
  deriving DecidableEq
def Cs.of (C : Cs) : Ek → Addr
  | .noGuest => C.cNoGuest | .noSize => C.cNoSize | .twice => C.cTwice | .away => C.cAway | .full => C.cFull
abbrev bmV : List Value := [.type "ValueError", .type "Exception", .type "BaseException", .type "object"]
/-- what the kit asks of a class of refusals -/
structure ExF (K : PySem.W.Frag) (c : Addr) : Prop where
  q : PySem.W.excIn K c bmV "ValueError.__new__" = true
  k : PySem.W.keepIn K (.ref c) = true
  b : PySem.W.subIn K (.ref c) (.type "BaseException") = some true
  t : PySem.W.typeIn K (.ref c) = some (.type "type")
  e : ExcC K c
structure Facts (K : PySem.W.Frag) (C : Cs) : Prop where
  ex : ∀ x, ExF K (C.of x)
  exm : ∀ x, PySem.W.exmOne K (.ref (C.of x)) (.ref C.cRingError) = some true
  kit : ∀ x y, PySem.W.kitOne K (.ref (C.of x)) (.ref (C.of y)) = some (decide (x = y))
  val : ∀ x, PySem.W.kitOne K (.ref (C.of x)) (.type "ValueError") = some true
structure Top (K : PySem.W.Frag) (mg : Str → Option Value) (C : Cs) : Prop where
  f : Facts K C
  gRingError : mg "RingError" = some (.ref C.cRingError)
  gNoGuest : mg "NoGuest" = some (.ref C.cNoGuest)
  gNoSize : mg "NoSize" = some (.ref C.cNoSize)
  gTwice : mg "Twice" = some (.ref C.cTwice)
  gAway : mg "Away" = some (.ref C.cAway)
  gFull : mg "Full" = some (.ref C.cFull)
/-- isinstance(e, one of the five), e the refusal that the suite holds -/
def tIsE (C : Cs) (cls : Value) (d : Option Addr) (a : Addr) (te : TE) (y : Ek) : TE := fun σ H Q => te σ H fun v H1 => v = .ref a ∧ ∃ x : Ek, cls = .ref (C.of x) ∧ d = none ∧ Q (.bl (decide (x = y))) H1
def tIsVal (C : Cs) (cls : Value) (d : Option Addr) (a : Addr) (te : TE) : TE := fun σ H Q => te σ H fun v H1 => v = .ref a ∧ ∃ x : Ek, cls = .ref (C.of x) ∧ d = none ∧ Q (.bl true) H1
def rIsX (C : Cs) (cls : Value) (d : Option Addr) (a : Addr) : List V → Hp → VK → Prop := fun xs H Q => ∃ x : Ek, cls = .ref (C.of x) ∧ d = none ∧
  ((∃ y : Ek, xs = [.ref a, .ref (C.of y)] ∧ Q (.bl (decide (x = y))) H) ∨ (xs = [.ref a, .ty "ValueError"] ∧ Q (.bl true) H))
theorem call_isX {X : Cx} {C : Cs} {a : Addr} {cls : Value} {d : Option Addr} {oe : Obj} {pn : List (Addr × Obj)} (F : Facts X.K C) (hz : Zc cls d oe) (hf : ∃ vs, oe.data = .fields vs) : CallR (X.suite a ((a, oe) :: pn)) (.builtin "isinstance") (rIsX C cls d a) := by
  intro pins s σ H xs us Q I r h
  obtain ⟨x, rfl, rfl, h⟩ := h
  rcases h with ⟨y, rfl, q⟩ | ⟨rfl, q⟩
  · exact call_isE (F.ex x).e hz hf pins s σ H _ us Q I r ⟨.ref (C.of y), .ref (C.of y), _, rfl, fun u h => h, F.kit x y, q⟩
  · exact call_isE (F.ex x).e hz hf pins s σ H _ us Q I r ⟨.ty "ValueError", .type "ValueError", _, rfl, fun u h => h, F.val x, q⟩
/-- try: .. except RingError as e: .. -/
def tTryAs (K : PySem.W.Frag) (C : Cs) (i : Nat) (tb : WX → TS) (ts : Addr → Value → Option Addr → TS) (W : WX) : TS := fun D σ H => tb (wAs K (.ref C.cRingError) i ts W D) D σ H
abbrev W0 : WX := fun _ _ _ _ => False
section
variable {X : Cx} {CX : CXT} {k : Nat} {ps : List Str} {sp : Sp} {E : L2.St → XK} {x : Str} {p pos : Pos} {e : Expr} {es : List Expr} {t : TA}
theorem pe_fnS (c : Cal X.prog X.w X.K X.mg X.base CX k x ps sp) (hr : Room k X.A) (hx : ∀ σ, PassesAt CX X σ (E σ)) (ha : PA X (e :: es) t) (hg : Gl X x := by rfl) (hdb : (x == ("__debug__" : Str)) = false := by decide)
    (he : starEach (e :: es) X.env = (false, eval e X.env) :: starEach es X.env := by rfl) (hpl : (backTo pos (starEach es X.env)).any (·.1) = false := by rfl) :
    PE X (.Call (.Name x p) (e :: es) [] pos) (tCallS sp E t) := by
  obtain ⟨f, fd, G, hm, hk, hb⟩ := c.ex
  exact pe_callS G hr hg hm hk hb hx ha hdb he hpl
end
end RS
namespace RS
open PySem PySem.Spec PyProof.Rows L2
/-- what is looked up of a class of refusals, at a; r is RingError -/
structure ClsF (K : PySem.W.Frag) (a r : Addr) : Prop where
  q : PySem.W.excIn K a bmV "ValueError.__new__" = true
  k : PySem.W.keepIn K (.ref a) = true
  b : PySem.W.subIn K (.ref a) (.type "BaseException") = some true
  t : PySem.W.typeIn K (.ref a) = some (.type "type")
  g : PySem.W.findIn K (.ref a) "__getattribute__" = some (some (.builtin "BaseException.__getattribute__"))
  n : PySem.W.findIn K (.ref a) "__getattr__" = some none
  d : PySem.W.hasDictIn K a = true
  c : PySem.W.findIn K (.ref a) "__class__" = some (some (.builtin "object.__class__"))
  m : PySem.W.mroIn K a (.type "object") = some true
  v : PySem.W.subIn K (.ref a) (.type "ValueError") = some true
  r : PySem.W.subIn K (.ref a) (.ref r) = some true
  s : PySem.W.subIn K (.ref a) (.ref a) = some true
theorem kit_val {K : PySem.W.Frag} {a r : Addr} (F : ClsF K a r) : PySem.W.kitOne K (.ref a) (.type "ValueError") = some true := by
  unfold PySem.W.kitOne
  rw [if_neg (by simp)]
  show (if PySem.W.kitMeta "ValueError" = true then _ else none) = _
  rw [if_pos (by decide)]
  exact F.v
theorem kit_ref {K : PySem.W.Frag} {a b r : Addr} (F : ClsF K a r) (G : ClsF K b r) {v : Bool} (h : PySem.W.subIn K (.ref a) (.ref b) = some v) : PySem.W.kitOne K (.ref a) (.ref b) = some v := by
  unfold PySem.W.kitOne
  by_cases e : a = b
  · subst e
    rw [F.s] at h; cases h
    rw [if_pos (by simp)]
  · rw [if_neg (by simpa using e)]
    show (if ((PySem.W.clsIn K b).isSome && PySem.W.typeIn K (.ref b) == some (.type "type")) = true then PySem.W.subIn K (.ref a) (.ref b) else none) = some v
    obtain ⟨cd, hc, _⟩ := PySem.W.any_some G.d
    rw [if_pos (by rw [hc, G.t]; rfl)]
    exact h
theorem top_mk {K : PySem.W.Frag} {h : Heap} {mg : Str → Option Value} {aR a1 a2 a3 a4 a5 aH : Addr} (X : K.In h) (G : h.Ns mainGlobals mg)
    (nR : PySem.W.nsIn K mainGlobals "RingError" = some (some (.ref aR))) (n1 : PySem.W.nsIn K mainGlobals "NoGuest" = some (some (.ref a1))) (n2 : PySem.W.nsIn K mainGlobals "NoSize" = some (some (.ref a2)))
    (n3 : PySem.W.nsIn K mainGlobals "Twice" = some (some (.ref a3))) (n4 : PySem.W.nsIn K mainGlobals "Away" = some (some (.ref a4))) (n5 : PySem.W.nsIn K mainGlobals "Full" = some (some (.ref a5)))
    (F1 : ClsF K a1 aR) (F2 : ClsF K a2 aR) (F3 : ClsF K a3 aR) (F4 : ClsF K a4 aR) (F5 : ClsF K a5 aR)
    (Rb : PySem.W.subIn K (.ref aR) (.type "BaseException") = some true) (Rd : PySem.W.hasDictIn K aR = true) (Rt : PySem.W.typeIn K (.ref aR) = some (.type "type"))
    (hn : PySem.W.specialIn K (.builtin "object.__class__") "__get__" = some (some (.builtin "getset_descriptor.__get__"))) (ht : PySem.W.takesIn K (.builtin "object.__class__") = some true)
    (s12 : PySem.W.subIn K (.ref a1) (.ref a2) = some false) (s13 : PySem.W.subIn K (.ref a1) (.ref a3) = some false) (s14 : PySem.W.subIn K (.ref a1) (.ref a4) = some false) (s15 : PySem.W.subIn K (.ref a1) (.ref a5) = some false)
    (s21 : PySem.W.subIn K (.ref a2) (.ref a1) = some false) (s23 : PySem.W.subIn K (.ref a2) (.ref a3) = some false) (s24 : PySem.W.subIn K (.ref a2) (.ref a4) = some false) (s25 : PySem.W.subIn K (.ref a2) (.ref a5) = some false)
    (s31 : PySem.W.subIn K (.ref a3) (.ref a1) = some false) (s32 : PySem.W.subIn K (.ref a3) (.ref a2) = some false) (s34 : PySem.W.subIn K (.ref a3) (.ref a4) = some false) (s35 : PySem.W.subIn K (.ref a3) (.ref a5) = some false)
    (s41 : PySem.W.subIn K (.ref a4) (.ref a1) = some false) (s42 : PySem.W.subIn K (.ref a4) (.ref a2) = some false) (s43 : PySem.W.subIn K (.ref a4) (.ref a3) = some false) (s45 : PySem.W.subIn K (.ref a4) (.ref a5) = some false)
    (s51 : PySem.W.subIn K (.ref a5) (.ref a1) = some false) (s52 : PySem.W.subIn K (.ref a5) (.ref a2) = some false) (s53 : PySem.W.subIn K (.ref a5) (.ref a3) = some false) (s54 : PySem.W.subIn K (.ref a5) (.ref a4) = some false) :
    Top K mg ⟨aR, a1, a2, a3, a4, a5, aH⟩ := by
  have ex : ∀ a, ClsF K a aR → ExF K a := fun a F => ⟨F.q, F.k, F.b, F.t, ⟨F.g, F.n, F.b, F.d, F.c, hn, ht, F.m⟩⟩
  have em : ∀ a, ClsF K a aR → PySem.W.exmOne K (.ref a) (.ref aR) = some true := fun a F => PySem.W.exm_ref Rb Rd Rt F.r
  refine ⟨⟨?_, ?_, ?_, ?_⟩, PySem.W.mg_of X G nR, PySem.W.mg_of X G n1, PySem.W.mg_of X G n2, PySem.W.mg_of X G n3, PySem.W.mg_of X G n4, PySem.W.mg_of X G n5⟩
  · intro x; cases x
    · exact ex _ F1
    · exact ex _ F2
    · exact ex _ F3
    · exact ex _ F4
    · exact ex _ F5
  · intro x; cases x
    · exact em _ F1
    · exact em _ F2
    · exact em _ F3
    · exact em _ F4
    · exact em _ F5
  · intro x y
    cases x <;> cases y
    · exact kit_ref F1 F1 F1.s
    · exact kit_ref F1 F2 s12
    · exact kit_ref F1 F3 s13
    · exact kit_ref F1 F4 s14
    · exact kit_ref F1 F5 s15
    · exact kit_ref F2 F1 s21
    · exact kit_ref F2 F2 F2.s
    · exact kit_ref F2 F3 s23
    · exact kit_ref F2 F4 s24
    · exact kit_ref F2 F5 s25
    · exact kit_ref F3 F1 s31
    · exact kit_ref F3 F2 s32
    · exact kit_ref F3 F3 F3.s
    · exact kit_ref F3 F4 s34
    · exact kit_ref F3 F5 s35
    · exact kit_ref F4 F1 s41
    · exact kit_ref F4 F2 s42
    · exact kit_ref F4 F3 s43
    · exact kit_ref F4 F4 F4.s
    · exact kit_ref F4 F5 s45
    · exact kit_ref F5 F1 s51
    · exact kit_ref F5 F2 s52
    · exact kit_ref F5 F3 s53
    · exact kit_ref F5 F4 s54
    · exact kit_ref F5 F5 F5.s
  · intro x; cases x
    · exact kit_val F1
    · exact kit_val F2
    · exact kit_val F3
    · exact kit_val F4
    · exact kit_val F5
end RS
/-! ### who is a guest; a seating and the list of who sits -/
namespace RS
open PySem PySem.Spec PyProof.Rows L2
def isG : V → Bool
  | .int i => decide (0 ≤ i) && decide (i < 1000000000000000000000000000000000000000000000000000000000000)
  | _ => false
theorem isG_yes {i : Int} (h0 : 0 ≤ i) (h1 : i < 1000000000000000000000000000000000000000000000000000000000000) : isG (.int i) = true := by
  show (decide _ && decide _) = true
  rw [decide_eq_true h0, decide_eq_true h1]; rfl
theorem isG_neg {i : Int} (h0 : i < 0) : isG (.int i) = false := by
  show (decide _ && decide _) = false
  rw [decide_eq_false (p := 0 ≤ i) (by omega)]; rfl
theorem isG_big {i : Int} (h0 : 1000000000000000000000000000000000000000000000000000000000000 ≤ i) : isG (.int i) = false := by
  show (decide _ && decide _) = false
  rw [decide_eq_false (p := i < 1000000000000000000000000000000000000000000000000000000000000) (by omega), Bool.and_false]
theorem isG_is {i : Int} (h : isG (.int i) = true) : 0 ≤ i ∧ i < 1000000000000000000000000000000000000000000000000000000000000 := by
  have h' : (decide (0 ≤ i) && decide (i < 1000000000000000000000000000000000000000000000000000000000000)) = true := h
  rw [Bool.and_eq_true, decide_eq_true_eq, decide_eq_true_eq] at h'
  exact h'
theorem isG_int {x : V} (h : isG x = true) : ∃ g, x = .int g := by
  cases x with
  | int g => exact ⟨g, rfl⟩
  | _ => cases h
theorem cut_ints {ns : List Int} {lo hi : Option Int} : ∃ cs : List Int, cutV (ns.map V.int) lo hi = cs.map V.int ∧ cs.length ≤ ns.length := by
  unfold cutV
  refine ⟨(ns.drop _).take _, by rw [List.map_take, List.map_drop], ?_⟩
  rw [List.length_take, List.length_drop]; omega
/-- a seating and the list of who sits -/
structure Seat (n : Nat) (f : Nat → Option Int) (gs : List Int) : Prop where
  P : Ring.Path n (hm n) f
  nd : gs.Nodup
  st : ∀ x, Ring.Sits n f x ↔ x ∈ gs
  lt : gs.length + 1 ≤ n
  g : ∀ x ∈ gs, isG (.int x) = true
theorem Seat.em {n : Nat} {f : Nat → Option Int} {gs : List Int} (S : Seat n f gs) (hn : 0 < n) : Ring.em n f + gs.length = n := Ring.em_of (hm_lt hn) S.P S.nd S.st
theorem Seat.e {n : Nat} {f : Nat → Option Int} {gs : List Int} (S : Seat n f gs) (hn : 0 < n) : ∃ e, e < n ∧ f e = none := Ring.em_pos.mp (by have := S.em hn; have := S.lt; omega)
theorem seat_none {n : Nat} (hn : 1 ≤ n) : Seat n (fun _ => none) [] := ⟨Ring.path_none, List.nodup_nil, fun x => ⟨fun h => absurd h Ring.sits_none, fun h => nomatch h⟩, hn, fun x h => nomatch h⟩
theorem Seat.add {n : Nat} {f f' : Nat → Option Int} {gs : List Int} {g : Int} (S : Seat n f gs) (h : g ∉ gs) (hG : isG (.int g) = true) (hl : gs.length + 2 ≤ n) (P : Ring.Path n (hm n) f') (st : ∀ x, Ring.Sits n f' x ↔ Ring.Sits n f x ∨ x = g) : Seat n f' (gs ++ [g]) := by
  refine ⟨P, List.nodup_append.mpr ⟨S.nd, by simp, fun x hx y hy => by simp at hy; subst hy; intro z; exact h (z ▸ hx)⟩, fun x => ?_, by rw [List.length_append]; simp; omega, fun x hx => ?_⟩
  · rw [st x, S.st x, List.mem_append, List.mem_singleton]
  · rcases List.mem_append.mp hx with h | h
    · exact S.g x h
    · rw [List.mem_singleton.mp h]; exact hG
theorem Seat.perm {n : Nat} {f : Nat → Option Int} {gs : List Int} (S : Seat n f gs) (hn : 0 < n) : (Ring.gl n f).Perm gs := Ring.gl_perm (hm_lt hn) S.P S.nd S.st
theorem Seat.del {n : Nat} {f f' : Nat → Option Int} {gs hs : List Int} {g : Int} (S : Seat n f gs) (P : Ring.Path n (hm n) f') (st : ∀ x, Ring.Sits n f' x ↔ Ring.Sits n f x ∧ x ≠ g) (nd : hs.Nodup) (e : ∀ x, x ∈ hs ↔ x ∈ gs ∧ x ≠ g) : Seat n f' hs := by
  have hl : hs.length ≤ gs.length := List.Nodup.length_le_of_subset nd fun x hx => ((e x).mp hx).1
  refine ⟨P, nd, fun x => ?_, by have := S.lt; omega, fun x hx => S.g x ((e x).mp hx).1⟩
  rw [st x, S.st x, e x]
/-- of the same guests just one seating -/
theorem Seat.one {n : Nat} {f f' : Nat → Option Int} {gs hs : List Int} (hn : 0 < n) (S : Seat n f gs) (T : Seat n f' hs) (e : ∀ x, x ∈ gs ↔ x ∈ hs) : row n f = row n f' :=
  row_ext (Ring.alike (hm_lt hn) S.P T.P (fun g => by rw [T.st, S.st, e]) (T.e hn) (S.e hn))
theorem ints_flat {gs : List Int} : (gs.map V.int).all flatV = true := by
  rw [List.all_map, List.all_eq_true]; intro x _; rfl
theorem ints_flD {gs : List Int} : (gs.map V.int).all flD = true := by
  rw [List.all_map, List.all_eq_true]; intro x _; rfl
theorem in_ints {gs : List Int} {g : Int} : inV (.int g) (gs.map V.int) = decide (g ∈ gs) := by
  unfold inV
  rw [List.any_map, Bool.eq_iff_iff, List.any_eq_true, decide_eq_true_eq]
  constructor
  · rintro ⟨x, hx, e⟩
    rw [← show x = g from of_decide_eq_true e]; exact hx
  · intro h; exact ⟨g, h, decide_eq_true rfl⟩
theorem sorted_one {a b c d : List Int} (h1 : a.Perm c) (h2 : b.Perm d) (h3 : a.Pairwise (· ≤ ·)) (h4 : b.Pairwise (· ≤ ·)) (h : c.Perm d) : a = b :=
  List.Perm.eq_of_pairwise (fun _ _ _ _ h1 h2 => Int.le_antisymm h1 h2) h3 h4 (h1.trans (h.trans h2.symm))
theorem gl_next {i : Nat} {f : Nat → Option Int} : Ring.gl (i + 1) f = Ring.gl i f ++ (match f i with | none => [] | some g => [g]) := by
  unfold Ring.gl
  rw [List.range_succ, List.filterMap_append]
  cases e : f i <;> simp [e]
theorem at_before {n : Nat} {f : Nat → Option Int} {k : Nat} (hk : k < n) : atI (row n f) ((k : Int) - 1) = some (ov (f (Ring.pv n k))) := by
  unfold atI Ring.pv
  rw [row_len]
  split
  · rename_i e
    subst e
    rw [show ixN n (((0 : Nat) : Int) - 1) = some (n - 1) by unfold ixN; rw [if_neg (by omega), if_pos (by omega)]; congr 1; omega]
    exact row_get (by omega)
  · rw [show ixN n ((k : Int) - 1) = some (k - 1) by unfold ixN; rw [if_pos (by omega), if_pos (by omega)]; congr 1; omega]
    exact row_get (by omega)
theorem cut_take {gs : List Int} {k : Nat} : cutV (gs.map V.int) none (some (k : Int)) = (gs.take k).map V.int := by
  unfold cutV
  rw [HT.sIx_nat, List.map_take]
  show List.take (min k _ - 0) (List.drop 0 _) = _
  rw [List.drop_zero, Nat.sub_zero, List.length_map]
  by_cases h : k ≤ gs.length
  · rw [Nat.min_eq_left h]
  · rw [Nat.min_eq_right (by omega), List.take_of_length_le (by simp), List.take_of_length_le (by simp; omega)]
theorem take_next {gs : List Int} {j : Nat} (h : j < gs.length) : gs.take (j + 1) = gs.take j ++ [gs[j]] := by
  rw [List.take_succ, List.getElem?_eq_getElem h]; rfl
theorem take_new {gs : List Int} (nd : gs.Nodup) {j : Nat} (h : j < gs.length) : gs[j] ∉ gs.take j := by
  intro z
  obtain ⟨i, hi, e⟩ := List.mem_take_iff_getElem.mp z
  have := (List.getElem_inj nd).mp e
  omega
def sT (n : Nat) (f : Nat → Option Int) : Nat → Int
  | 0 => 0
  | k + 1 => match f k with
    | none => sT n f k
    | some g => sT n f k + farI g k n
def sM (n : Nat) (f : Nat → Option Int) : Nat → Int
  | 0 => 0
  | k + 1 => match f k with
    | none => sM n f k
    | some g => if farI g k n > sM n f k then farI g k n else sM n f k
def sS (n : Nat) (f : Nat → Option Int) : Nat → Int
  | 0 => 0
  | k + 1 => match f k with
    | none => sS n f k
    | some g => sS n f k + farI g k n * farI g k n
end RS
/-! ### the class House: its methods by their names -/
namespace RS
open PySem PySem.Spec PyProof.Rows L2
structure CalM (P : Program) (w : World) (K : PySem.W.Frag) (mg : Str → Option Value) (base : Heap) (CX : CXT) (k : Nat) (C : Addr) (m : Str) (ps : List Str) (sp : Sp) : Prop where
  ex : ∃ f fd, FnOk P w K mg base CX k f fd ps sp ∧ Meth K C m f ∧ Binds K fd ps []
theorem CalM.use {P : Program} {w : World} {K : PySem.W.Frag} {mg : Str → Option Value} {base : Heap} {CX : CXT} {k : Nat} {C : Addr} {m : Str} {ps : List Str} {sp : Sp} {α : Prop} (c : CalM P w K mg base CX k C m ps sp)
    (h : ∀ f fd, FnOk P w K mg base CX k f fd ps sp → Meth K C m f → Binds K fd ps [] → α) : α := by
  obtain ⟨f, fd, a, b, d⟩ := c.ex
  exact h f fd a b d
/-- House(..): its __init__, with one value or with the default -/
structure CalI (P : Program) (w : World) (K : PySem.W.Frag) (mg : Str → Option Value) (base : Heap) (k : Nat) (C : Addr) (ps : List Str) (dflt : V) (sp : Sp) : Prop where
  ex : ∃ f fd, FnOk P w K mg base (L2.CX P w) k f fd ps sp ∧ Mk K C f ∧ Binds K fd ps [] ∧ ∃ d, RelV dflt d ∧ Binds K fd ps [d]
theorem CalI.use {P : Program} {w : World} {K : PySem.W.Frag} {mg : Str → Option Value} {base : Heap} {k : Nat} {C : Addr} {ps : List Str} {dflt : V} {sp : Sp} {α : Prop} (c : CalI P w K mg base k C ps dflt sp)
    (h : ∀ f fd, FnOk P w K mg base (L2.CX P w) k f fd ps sp → Mk K C f → Binds K fd ps [] → (∃ d, RelV dflt d ∧ Binds K fd ps [d]) → α) : α := by
  obtain ⟨f, fd, a, b, d, e⟩ := c.ex
  exact h f fd a b d e
/-- what the class says -/
structure HF (K : PySem.W.Frag) (C : Addr) : Prop where
  cl : Cls K C
  most : NoAttr K C "most"
  seats : NoAttr K C "seats"
/-- o.m(..) in a try -/
def tMethW (C : Addr) (m : Str) (sp : Sp) (E : L2.St → XK) (ta : TE) (t : TA) : TE := fun σ H Q => ta σ H fun x H1 => ∃ a dx fs, x = .ref a ∧ H1 a = some (.ins C dx fs) ∧ fs.lookup m = none ∧ t σ H1 fun vs H2 => sp (x :: vs) H2 Q (E σ)
section
variable {X : Cx} {CX : CXT} {k : Nat} {f C : Addr} {fd : FuncData} {ps : List Str} {sp : Sp} {E : L2.St → XK} {m : Str} {pos apos : Pos} {e o : Expr} {es : List Expr} {ta : TE} {t : TA}
theorem pe_methW {pl : Sem Bool} (he : PE X o ta) (c : Cls X.K C) (hm : Meth X.K C m f) (F : FnOk X.prog X.w X.K X.mg X.base CX k f fd ps sp) (hr : Room k X.A) (hb : Binds X.K fd ps []) (hx : ∀ σ, PassesAt CX X σ (E σ)) (ha : PA X (e :: es) t)
    (hst : starEach (e :: es) X.env = (false, eval e X.env) :: starEach es X.env := by rfl) (hpl : (backTo pos (starEach es X.env)).any (·.1) = false := by rfl)
    (ht : eval (.Call (.Attribute o m apos) (e :: es) [] pos) X.env = (do let ov ← eval o X.env; standAt apos.atName; let (f, first) ← holding [ov] (getMethod ov m pl); callWith pos f first (backTo pos (starEach (e :: es) X.env)) (backToKw pos (keywordEach [] X.env))) := by rfl) :
    PE X (.Call (.Attribute o m apos) (e :: es) [] pos) (tMethW C m sp E ta t) := by
  refine ⟨fun pins s σ H Q I h => PySem.W.methodCall_KW (pl := pl) (thn (he.run pins s σ H _ I h) fun v s1 ⟨x, H1, I1, rx, a, dx, fs, ex, ea, l, q⟩ => ?_) ht⟩
  subst ex
  obtain rfl : v = Value.ref a := rx
  refine getmeth_ok I1 ea c hm l (PySem.W.callWith_K (first := [.ref a]) (h₀ := X.base) I.ok.mod.kin hm.kp (thn (ha.run pos pins s1 σ H1 _ I1 q) fun vs s2 ⟨ws, H2, I2, r, q2⟩ => ⟨I2.kIn, ?_⟩) hst hpl)
  exact run_fnS (us := .ref a :: vs) (vs := .ref a :: ws) F hr hb (hx σ) I2 (.cons rfl r) q2
end
end RS
namespace RS
open PySem PySem.Spec PyProof.Rows L2
structure TopH (K : PySem.W.Frag) (mg : Str → Option Value) (C : Cs) : Prop extends Top K mg C where
  gHouse : mg "House" = some (.ref C.cHouse)
  h : HF K C.cHouse
/-- a method of the class, by its name -/
structure DefM (K : PySem.W.Frag) (C : Addr) (m q : Str) (st : Stmt) : Prop where
  ex : ∃ f fd, Fun K m q st f fd ∧ Meth K C m f
theorem def_mkM {K : PySem.W.Frag} {C : Addr} {m q : Str} {st : Stmt} {f : Addr} {od an : Option Addr} {sl : Array (Option Value)} {oc kV dc pm cd ct : Value}
    (a : PySem.W.findIn K (.ref C) m = some (some (.ref f))) (i : PySem.W.isFn K (.ref f) = true) (l : K.lookup f = some ⟨oc, od, .func (PySem.W.fnOf m q (defArgs st) (defBody st) (defScope st) .none kV dc pm an cd ct), sl⟩)
    (c : PySem.W.codeIn K cd q = true) (k : PySem.W.keepIn K (.ref f) = true) : DefM K C m q st := ⟨f, _, fun_mk l c k, ⟨a, i, k⟩⟩
/-- __init__ with one default, a whole number -/
structure DefI (K : PySem.W.Frag) (C : Addr) (st : Stmt) : Prop where
  ex : ∃ f fd, FunD K "__init__" "House.__init__" (defArgs st) (defBody st) (defScope st) [.int 96] [] f fd ∧ Mk K C f
theorem def_mkI {K : PySem.W.Frag} {C : Addr} {st : Stmt} {f T : Addr} {od an : Option Addr} {sl : Array (Option Value)} {oc kV dc pm cd ct : Value} {o1 : Value} {o2 : Option Addr} {o4 : Array (Option Value)} {tk : Tok} {n : Nat}
    (a : PySem.W.findIn K (.ref C) "__init__" = some (some (.ref f))) (i : PySem.W.isFn K (.ref f) = true) (l : K.lookup f = some ⟨oc, od, .func (PySem.W.fnOf "__init__" "House.__init__" (defArgs st) (defBody st) (defScope st) (.ref T) kV dc pm an cd ct), sl⟩)
    (c : PySem.W.codeIn K cd "House.__init__" = true) (k : PySem.W.keepIn K (.ref f) = true) (lT : K.lookup T = some ⟨o1, o2, .seq #[.int 96 tk] n, o4⟩) (mk : PySem.W.makesIn K C = true) (kc : PySem.W.keepIn K (.ref C) = true) : DefI K C st :=
  ⟨f, _, ⟨⟨oc, od, .ref T, kV, dc, pm, an, cd, ct, sl, rfl, l, c, .inr ⟨by simp, T, _, [.int 96 tk], n, rfl, lT, rfl, .cons ⟨tk, rfl⟩ .nil⟩, .inl rfl⟩, k⟩, ⟨mk, a, i, kc⟩⟩
theorem topH_mk {K : PySem.W.Frag} {h : Heap} {mg : Str → Option Value} {C : Cs} (X : K.In h) (G : h.Ns mainGlobals mg) (T : Top K mg C) (nH : PySem.W.nsIn K mainGlobals "House" = some (some (.ref C.cHouse)))
    (pg : PySem.W.plainGet K C.cHouse Str.empty = true) (hd : PySem.W.hasDictIn K C.cHouse = true) (po : PySem.W.plainOver K C.cHouse = true) (sa : PySem.W.findIn K (.ref C.cHouse) "__setattr__" = some (some (.builtin "object.__setattr__")))
    (nm : PySem.W.findIn K (.ref C.cHouse) "most" = some none) (ns : PySem.W.findIn K (.ref C.cHouse) "seats" = some none) : TopH K mg C := ⟨T, PySem.W.mg_of X G nH, ⟨⟨pg, hd, po, sa⟩, nm, ns⟩⟩
end RS
/-! ### a house in the heap -/
namespace RS
open PySem PySem.Spec PyProof.Rows L2
abbrev hfs (M : Nat) (s : Addr) : List (Str × V) := [("most", .int M), ("seats", .ref s)]
theorem hfs_most {M : Nat} {s : Addr} : (hfs M s).lookup ("most" : Str) = some (.int M) := rfl
theorem hfs_seats {M : Nat} {s : Addr} : (hfs M s).lookup ("seats" : Str) = some (.ref s) := rfl
structure Hs0 (C : Cs) (H : Hp) (p : Addr) (M : Nat) (s : Addr) (n : Nat) (f : Nat → Option Int) (gs : List Int) : Prop where
  hp : ∃ dx, H p = some (.ins C.cHouse dx (hfs M s))
  hs : H s = some (.lst (row n f))
  S : Seat n f gs
  n2 : 2 ≤ n
  n3 : n ≤ 1024
theorem Hs0.sq {K : PySem.W.Frag} {C : Cs} {H : Hp} {p : Addr} {M : Nat} {s : Addr} {n : Nat} {f : Nat → Option Int} {gs : List Int} (h : Hs0 C H p M s n f gs) : SqL K H s (row n f) := .inl (.inl h.hs)
def Off2 (p s : Addr) (H H' : Hp) : Prop := ∀ b o, b ≠ p → b ≠ s → H b = some o → H' b = some o
theorem Off2.same {p s : Addr} {H H' : Hp} (x : Same H H') : Off2 p s H H' := fun b o _ _ h => x b o h
section
variable {C : Cs} {H H' : Hp} {p : Addr} {M : Nat} {s : Addr} {n : Nat} {f : Nat → Option Int} {gs : List Int}
theorem Hs0.same (h : Hs0 C H p M s n f gs) (e : Same H H') : Hs0 C H' p M s n f gs := by
  obtain ⟨dx, hp⟩ := h.hp
  exact ⟨⟨dx, e _ _ hp⟩, e _ _ h.hs, h.S, h.n2, h.n3⟩
theorem Hs0.ne (h : Hs0 C H p M s n f gs) : s ≠ p := fun z => by
  obtain ⟨dx, hp⟩ := h.hp
  have := h.hs
  rw [z, hp] at this; cases this
/-- another row in the same place -/
theorem Hs0.put {f' : Nat → Option Int} {gs' : List Int} (h : Hs0 C H p M s n f gs) (o : Off s H H') (e : H' s = some (.lst (row n f'))) (S' : Seat n f' gs') : Hs0 C H' p M s n f' gs' := by
  obtain ⟨dx, hp⟩ := h.hp
  exact ⟨⟨dx, o _ _ (fun z => h.ne z.symm) hp⟩, e, S', h.n2, h.n3⟩
end
theorem Seat.list {n : Nat} {f : Nat → Option Int} {gs hs : List Int} (S : Seat n f gs) (nd : hs.Nodup) (e : ∀ x, x ∈ hs ↔ x ∈ gs) : Seat n f hs := by
  have hl : hs.length ≤ gs.length := List.Nodup.length_le_of_subset nd fun x hx => (e x).mp hx
  exact ⟨S.P, nd, fun x => by rw [S.st, e], by have := S.lt; omega, fun x hx => S.g x ((e x).mp hx)⟩
theorem Seat.pm {n : Nat} {f : Nat → Option Int} {gs hs : List Int} (S : Seat n f gs) (e : hs.Perm gs) : Seat n f hs := S.list (e.nodup_iff.mpr S.nd) fun _ => e.mem_iff
abbrev offG (gs : List Int) (g : Int) : List Int := gs.filter fun y => decide (y ≠ g)
theorem offG_mem {gs : List Int} {g y : Int} : y ∈ offG gs g ↔ y ∈ gs ∧ y ≠ g := by rw [List.mem_filter, decide_eq_true_eq]
theorem offG_nd {gs : List Int} {g : Int} (h : gs.Nodup) : (offG gs g).Nodup := h.sublist List.filter_sublist
theorem offG_len {gs : List Int} {g : Int} (nd : gs.Nodup) (h : g ∈ gs) : (offG gs g).length + 1 = gs.length := by
  have pm : (g :: offG gs g).Perm gs := (List.perm_ext_iff_of_nodup (List.nodup_cons.mpr ⟨fun z => (offG_mem.mp z).2 rfl, offG_nd nd⟩) nd).mpr fun y => by
    rw [List.mem_cons, offG_mem]
    exact ⟨fun z => z.elim (fun e => e ▸ h) (fun z => z.1), fun z => if w : y = g then .inl w else .inr ⟨z, w⟩⟩
  simpa using pm.length_eq
theorem cnt_row {n : Nat} {f : Nat → Option Int} : (row n f).countP (fun z => eqV z .non) = Ring.em n f := by
  unfold row Ring.em
  rw [List.countP_map]
  refine List.countP_congr fun p _ => ?_
  show eqV (ov (f p)) .non = true ↔ _
  cases f p <;> simp [ov, eqV]
end RS
/-! ### a def that is handed the exception that a suite holds; House(..) in a try, and with its word -/
namespace RS
open PySem PySem.Spec PyProof.Rows L2
/-- the def f keeps sp, a the handled one's address, cls its class -/
structure FnE (P : Program) (w : World) (K : PySem.W.Frag) (mg : Str → Option Value) (base : Heap) (k : Nat) (f : Addr) (fd : FuncData) (ps : List Str) (sp : Addr → Value → Option Addr → Sp) : Prop where
  len : ∀ a c d vs H Q E, sp a c d vs H Q E → vs.length = ps.length
  run : ∀ (A : Around) (outer : List Env) (s : Shared) (H : Hp) (args : Args) (us : List Value) (vs : List V) (Q : VK) (E : XK) (a : Addr) (oe : Obj) (cls : Value) (d : Option Addr), L2H.RoomH k A → Zc cls d oe → (∃ vs, oe.data = .fields vs) → L2H.PinOk outer H s (a, oe) → Env0 P w K mg base A outer s H →
    BindsTo s fd args (ps.zip us) → Vals vs us → sp a cls d vs H Q E → codeAny (model P w) A (.call (.ref f) args) (CR CX0 outer P w H s Q E) s
section
variable {P : Program} {w : World} {K : PySem.W.Frag} {mg : Str → Option Value} {base : Heap}
theorem okE {x qual : Str} {st : Stmt} {f : Addr} {fd : FuncData} {N ps : List Str} {k : Nat} {sp : Addr → Value → Option Addr → Sp} (F : Fun K x qual st f fd) (S : FnScope N ps (defScope st)) (len : ∀ a c d vs H Q E, sp a c d vs H Q E → vs.length = ps.length)
    (hbody : ∀ (cdv : Value) (A : Around) (outer : List Env) (s : Shared) (H : Hp) (vs : List V) (Q : VK) (E : XK) (a : Addr) (oe : Obj) (cls : Value) (d : Option Addr), Zc cls d oe → (∃ vs, oe.data = .fields vs) → sp a cls d vs H Q E →
      ∃ t, PSs (L2H.cxH CX0 P w K mg base N qual (defScope st) f cdv A outer s H E (a, oe)) (defBody st) t ∧ t { nx := fun _ H' => Q .non H', rt := Q } (start N vs) H) : FnE P w K mg base (k + 1) f fd ps sp := by
  obtain ⟨oc, od, kV, doc, pm, an, cdv, ct, osl, rfl, lk, hcd⟩ := F.ex
  refine ⟨len, fun A outer s H args us vs Q E a oe cls d hr hz hf hpin e0 hb r hsp => ?_⟩
  obtain ⟨t, ht, hq⟩ := hbody cdv A outer s H vs Q E a oe cls d hz hf hsp
  have KX : K.In s.heap := e0.mod.kin.keeps fun b o e => (e0.bs b o e).1
  have lim : s.heap.NoLimit := e0.mod.nolimit.keeps fun b o e => (e0.bs b o e).1
  refine codeAny_call_function hr.depth (KX _ _ lk) rfl S.co S.gen rfl (PySem.W.codeRec_of KX hcd) (hb _ _ _ _ ?_)
  refine wpAny_newFunctionEnv_cells S.kind (fun ⟨n, v⟩ hy => ?_) fun env he s1 x => ?_
  · rcases S.par n (List.of_mem_zip hy).1 with q | q
    · exact .inl q
    · exact .inr ⟨q, PySem.W.cellsFrom_some _ _ _ (.inl q)⟩
  subst he
  refine ⟨lim.keeps x.toInCall.keep, codeAny_func (wpAny_mono (ht.run [] s1 (start N vs) H _ (L2H.inv_startH S hpin e0 (len _ _ _ _ _ _ _ hsp) r x) hq) (fun fl s' z => ?_) fun _ _ z => z)⟩
  cases fl with
  | ret u => obtain ⟨v, _, H', J, rv, q⟩ := z; exact ⟨v, H', J.os, J.bare, J.base, J.hok, rv, q⟩
  | next => obtain ⟨_, H', J, q⟩ := z; exact ⟨.non, H', J.os, J.bare, J.base, J.hok, rfl, q⟩
  | brk => obtain ⟨_, _, _, q⟩ := z; exact q.elim
  | cont => obtain ⟨_, _, _, q⟩ := z; exact q.elim
/-- such a def, by its name -/
structure CalE (P : Program) (w : World) (K : PySem.W.Frag) (mg : Str → Option Value) (base : Heap) (k : Nat) (x : Str) (ps : List Str) (sp : Addr → Value → Option Addr → Sp) : Prop where
  ex : ∃ f fd, FnE P w K mg base k f fd ps sp ∧ mg x = some (.ref f) ∧ PySem.W.keepIn K (.ref f) = true ∧ Binds K fd ps []
end
/-- isinstance(e, ..), e the handled one, where it is pinned -/
theorem call_isP {X : Cx} {C : Cs} {a : Addr} {cls : Value} {d : Option Addr} {oe : Obj} (F : Facts X.K C) (hz : Zc cls d oe) (hf : ∃ vs, oe.data = .fields vs) (hp : (a, oe) ∈ X.pn) : CallR X (.builtin "isinstance") (rIsX C cls d a) := by
  intro pins s σ H xs us Q I r h
  obtain ⟨x, rfl, rfl, h⟩ := h
  obtain ⟨c, cv, b, rfl, hcv, e, q⟩ : rIsE X.K (C.of x) a xs H Q := by
    rcases h with ⟨y, rfl, q⟩ | ⟨rfl, q⟩
    · exact ⟨.ref (C.of y), .ref (C.of y), _, rfl, fun u h => h, F.kit x y, q⟩
    · exact ⟨.ty "ValueError", .type "ValueError", _, rfl, fun u h => h, F.val x, q⟩
  have T := (F.ex x).e
  cases r with
  | cons rx rr =>
    cases rr with
    | cons rt rr =>
      cases rr
      cases rx
      have ec := hcv _ rt
      subst ec
      obtain ⟨hget, _⟩ := I.pin (a, oe) (List.mem_append.mpr (.inl hp))
      obtain ⟨vs, hv⟩ := hf
      have J : PySem.W.InstAt s.heap a oe (C.of x) none := by
        obtain ⟨oc, od, oda, osl⟩ := oe
        obtain ⟨h1, h2⟩ := hz
        dsimp only at h1 h2 hv
        subst h1 h2 hv
        exact ⟨hget, rfl, rfl, trivial⟩
      exact PySem.W.kia_one (PySem.W.handS_kitx_exc T.hg T.hk T.hs T.hd T.ha T.hn T.ht T.hm) I.kIn J e (fun z => nomatch z) fun tk => ⟨.bl b, H, I.kept (t' := tk) fun _ _ z => z, rfl, q⟩
/-- f(e, ..) in the suite that holds the exception -/
def tCallE (sp : Sp) (t : TA) : TE := fun σ H Q => t σ H fun vs H1 => sp vs H1 Q E0
section
variable {X : Cx} {k : Nat} {ps : List Str} {sp : Addr → Value → Option Addr → Sp} {x : Str} {q pos : Pos} {e : Expr} {es : List Expr} {t : TA} {a : Addr} {oe : Obj} {cls : Value} {d : Option Addr} {pn : List (Addr × Obj)}
theorem pe_fnE (c : CalE X.prog X.w X.K X.mg X.base k x ps sp) (hr : Room k X.A) (hz : Zc cls d oe) (hf : ∃ vs, oe.data = .fields vs) (ha : PA (X.suite a ((a, oe) :: pn)) (e :: es) t) (hg : Gl X x := by rfl) (hdb : (x == ("__debug__" : Str)) = false := by decide)
    (he : starEach (e :: es) X.env = (false, eval e X.env) :: starEach es X.env := by rfl) (hpl : (backTo pos (starEach es X.env)).any (·.1) = false := by rfl) :
    PE (X.suite a ((a, oe) :: pn)) (.Call (.Name x q) (e :: es) [] pos) (tCallE (sp a cls d) t) := by
  obtain ⟨f, fd, F, hm, hk, hb⟩ := c.ex
  refine ⟨fun pins s σ H Q I h => ?_⟩
  refine wpAny_Call_Name_kw (ld_glob (X := X.suite a ((a, oe) :: pn)) I hg hm ?_ hdb)
  refine PySem.W.callWith_K (h₀ := X.base) I.ok.mod.kin hk (thn (ha.run pos pins s σ H _ I h) fun us s1 ⟨vs, H1, I1, r, z⟩ => ⟨I1.kIn, ?_⟩) he hpl
  have hl : us.length = ps.length := by rw [← r.length]; exact F.len _ _ _ _ _ _ _ z
  have b := hb s1 us I1.kIn (by rw [List.append_nil]; exact hl)
  rw [List.append_nil] at b
  have P1 := I1.pin (a, oe) (List.mem_append_left _ List.mem_cons_self)
  have hpin : L2H.PinOk (X.suite a ((a, oe) :: pn)).stack H1 s1 (a, oe) := ⟨P1.1, P1.2.1, fun hm => (List.mem_cons.mp (I1.stkSub a hm)).elim P1.2.2.1 P1.2.2.2.1, P1.2.2.2.2⟩
  have hr' : L2H.RoomH k (X.suite a ((a, oe) :: pn)).A := ⟨hr.dp, hr.un⟩
  refine wpAny_call (codeAny_mono (F.run _ (X.suite a ((a, oe) :: pn)).stack s1 H1 ⟨us, []⟩ us vs Q E0 a oe cls d hr' hz hf hpin I1.env0 b r z) fun r s' hq => ?_)
  cases r with
  | error e => exact False.elim hq
  | ok fl =>
    cases fl with
    | ret u => exact I1.after hq
    | next => exact False.elim hq
    | brk => exact False.elim hq
    | cont => exact False.elim hq
end
/-- C(e, ..) in a try -/
def tMakeW (C : Addr) (sp : Sp) (E : L2.St → XK) (t : TA) : TE := fun σ H Q => t σ H fun vs H1 => ∀ x dx, H1 x = none → H1 dx = none → dx ≠ x → sp (.ref x :: vs) (upd (upd H1 dx (.own x)) x (.ins C dx [])) (fun v H2 => v = .non ∧ Q (.ref x) H2) (E σ)
section
variable {X : Cx} {CX : CXT} {k : Nat} {f C : Addr} {fd : FuncData} {ps : List Str} {sp : Sp} {E : L2.St → XK} {x : Str} {p pos : Pos} {e : Expr} {es : List Expr} {t : TA}
theorem pe_makeW (M : Mk X.K C f) (F : FnOk X.prog X.w X.K X.mg X.base CX k f fd ps sp) (hr : Room (k + 1) X.A) (hg : Gl X x) (hm : X.mg x = some (.ref C)) (hb : Binds X.K fd ps []) (hx : ∀ σ, PassesAt CX X σ (E σ))
    (ha : PA X (e :: es) t) (hdb : (x == ("__debug__" : Str)) = false := by decide) (he : starEach (e :: es) X.env = (false, eval e X.env) :: starEach es X.env := by rfl) (hpl : (backTo pos (starEach es X.env)).any (·.1) = false := by rfl) :
    PE X (.Call (.Name x p) (e :: es) [] pos) (tMakeW C sp E t) := by
  refine ⟨fun pins s σ H Q I h => ?_⟩
  refine wpAny_Call_Name_kw (ld_glob I hg hm ?_ hdb)
  refine PySem.W.callWith_K (h₀ := X.base) I.ok.mod.kin M.kp (thn (ha.run pos pins s σ H _ I h) fun us s1 ⟨vs, H1, I1, r, q⟩ => ⟨I1.kIn, ?_⟩) he hpl
  have hq := q (s1.heap.objs.size + 1) s1.heap.objs.size (I1.hok.fresh (Nat.le_succ _)) (I1.hok.fresh (Nat.le_refl _)) (Nat.ne_of_lt (Nat.lt_succ_self _))
  have I2 := Inv.made (C := C) I1
  have r2 : Vals (V.ref (s1.heap.objs.size + 1) :: vs) (Value.ref (s1.heap.objs.size + 1) :: us) := .cons rfl r
  have hl : (Value.ref (s1.heap.objs.size + 1) :: us).length = ps.length := r2.length.symm.trans (F.len _ _ _ _ hq)
  have b := hb _ (Value.ref (s1.heap.objs.size + 1) :: us) I2.kIn (by rw [List.append_nil]; exact hl)
  rw [List.append_nil] at b
  refine wpAny_call (make_map (f := f) I1.kIn M.makes M.init (beq_iff_eq.mp M.fn) (codeAny_mono (F.run _ X.stack _ _ ⟨Value.ref (s1.heap.objs.size + 1) :: us, []⟩ _ _ _ _ (hr.make C us []) (I2.env0.make C us []) b r2 hq) fun r s' hq' => ?_))
  cases r with
  | error e => exact hx σ pins _ _ e s' I2 hq'
  | ok fl =>
    cases fl with
    | ret u =>
      obtain ⟨v, H', I3, rv, ev, q3⟩ := I2.after hq'
      subst ev
      exact ⟨rv, ⟨V.ref (s1.heap.objs.size + 1), H', I3, rfl, q3⟩⟩
    | next => exact False.elim hq'
    | brk => exact False.elim hq'
    | cont => exact False.elim hq'
end
/-- House(..): with one value, with the default, with its word -/
structure CalK (P : Program) (w : World) (K : PySem.W.Frag) (mg : Str → Option Value) (base : Heap) (k : Nat) (C : Addr) (ps : List Str) (wd : Str) (sp : Sp) : Prop where
  ex : ∃ f fd, FnOk P w K mg base (L2.CX P w) k f fd ps sp ∧ Mk K C f ∧ KBn K fd ps 1 [wd] (fun us ws => us ++ ws) (fun vs zs => vs ++ zs)
theorem CalK.use {P : Program} {w : World} {K : PySem.W.Frag} {mg : Str → Option Value} {base : Heap} {k : Nat} {C : Addr} {ps : List Str} {wd : Str} {sp : Sp} {α : Prop} (c : CalK P w K mg base k C ps wd sp)
    (h : ∀ f fd, FnOk P w K mg base (L2.CX P w) k f fd ps sp → Mk K C f → KBn K fd ps 1 [wd] (fun us ws => us ++ ws) (fun vs zs => vs ++ zs) → α) : α := by
  obtain ⟨f, fd, a, b, d⟩ := c.ex
  exact h f fd a b d
end RS
/-! "run": a reading is worked off by rewriting, from the left -/
local macro_rules | `(tactic| walk_at "run") => `(tactic| simp only [L2.tSeq, L2.tAsg, L2.gName, L2.tVar, L2.tC, L2.tOp, L2.tUn, L2.tTest, L2.tB, L2.tIfS, L2.tNext, L2.tRet, L2.tRetN, L2.tDrop, L2.tCall, L2.tCons, L2.tNil, L2.tCB, L2.tAnd, L2.tOr, L2.tNot, L2.tAndV, L2.tOrV, L2.tNotV, L2.tIf, L2.tIsN, L2.tNotN, L2.tBreak, L2.tCont, L2.tTup, L2.tLst, L2.gTup, L2.gCons, L2.gNil, L2.gSub, L2.tChain, L2.tDGet, L2.tDIn, L2.tDNotIn, L2.sDPut, L2.tDNewK, L2.tFld, L2.tMeth,
  L2.rI, L2.rI0, L2.rU, L2.rEq, L2.rNe, L2.rIxL, L2.rIxT, L2.rIn, L2.rIsi, L2.rSetL, L2.rCat, L2.rRep, L2.rSlL, L2.tSl, RS.tStepL, L2.tPart, L2.tNoPart, L2.tYes, RS.ov_non, RS.ov_some, L2.rIsB, L2.rNotB, RS.rIsA, RS.isWh_int, RS.isWh_bl, RS.isWh_non, RS.isWh_ref, RS.Ty.nm, RS.Ty.isA, RS.tyOf_int, RS.tyOf_bl, RS.tyOf_non, RS.tyOf_str, RS.rLenS, RS.rLenD, L2.rListD, L2.tBM0, RS.rListS, RS.rMax2, RS.rMin2, RS.rInt1, RS.rStr1, RS.CMl, L2.CDiv, L2.scal,
  List.getElem?_cons_zero, List.getElem?_cons_succ, List.set_cons_zero, List.set_cons_succ, List.append_nil, List.nil_append, List.cons_append,
  Option.some.injEq, L2.V.int.injEq, L2.V.bl.injEq, L2.V.ref.injEq, L2.V.str.injEq, List.cons.injEq, List.nil_eq, reduceCtorEq,
  exists_eq, exists_eq', exists_eq_left, exists_eq_left', exists_eq_right, exists_eq_right', exists_and_left, exists_and_right, exists_const, and_assoc, Int.reduceLT, Int.reduceLE, Int.reduceNeg, Nat.reduceLT, Nat.reduceLeDiff, List.length_cons, List.length_nil, Nat.reduceAdd, Int.reduceMul, Int.reduceSub, true_or, or_true, true_and, and_true, and_self, false_and, and_false, or_false, false_or, decide_eq_true_eq, Bool.not_eq_true', Bool.not_eq_true, decide_eq_false_iff_not, Bool.not_not, Bool.true_eq_false, Bool.false_eq_true, if_true, if_false, Bool.not_true, Bool.not_false, decide_true, decide_false, eq_self, not_true_eq_false, not_false_eq_true, ite_true, ite_false])
local macro_rules | `(tactic| walk_at "nxt") => `(tactic| dsimp only [L2.tSeq, L2.tNext, List.set_cons_zero, List.set_cons_succ])
namespace RS
open PySem PySem.Spec PyProof.Rows L2
/-- what is told of a refusal -/
def kindsL (x : Ek) : List V := [.bl (decide (x = .noGuest)), .bl (decide (x = .noSize)), .bl (decide (x = .twice)), .bl (decide (x = .away)), .bl (decide (x = .full)), .bl true]
def ekI : Ek → Nat
  | .noGuest => 0 | .noSize => 1 | .twice => 2 | .away => 3 | .full => 4
theorem kinds_flD {x : Ek} : (kindsL x).all flD = true := by cases x <;> rfl
theorem kinds_take {x : Ek} {i : Nat} (hi : i < 6) : (kindsL x).take (i + 1) = (kindsL x).take i ++ [.bl (decide (i = ekI x) || decide (i = 5))] := by
  have : i = 0 ∨ i = 1 ∨ i = 2 ∨ i = 3 ∨ i = 4 ∨ i = 5 := by omega
  rcases this with rfl | rfl | rfl | rfl | rfl | rfl <;> cases x <;> rfl
def sp_is_guest (K : PySem.W.Frag) (C : Cs) : Sp := fun vs H Q _ => ∃ (x : V) (s : Ty), vs = [x] ∧ tyOf H x = some s ∧ Q (.bl (isG x)) H
def sp_home (K : PySem.W.Frag) (C : Cs) : Sp := fun vs H Q _ => ∃ g n : Int, vs = [.int g, .int n] ∧ 0 < n ∧ Q (.int (homeI g n)) H
def sp_carried (K : PySem.W.Frag) (C : Cs) : Sp := fun vs H Q _ => ∃ g p n : Int, vs = [.int g, .int p, .int n] ∧ 0 < n ∧ Q (.int (farI g p n)) H
def sp_ahead (K : PySem.W.Frag) (C : Cs) : Sp := fun vs H Q _ => ∃ a b p n : Int, vs = [.int a, .int b, .int p, .int n] ∧ 0 < n ∧ Q (.bl (aheadI a b p n)) H
def roomI (n : Int) : Int := if n ≤ 6 then 8 else if n ≤ 12 then 16 else if n ≤ 24 then 32 else if n ≤ 48 then 64 else if n ≤ 96 then 128 else 256
theorem roomI_ok (n : Int) (h0 : 0 ≤ n) (h1 : n ≤ 192) : (roomI n = 8 ∨ roomI n = 16 ∨ roomI n = 32 ∨ roomI n = 64 ∨ roomI n = 128 ∨ roomI n = 256) ∧ 4 * n ≤ 3 * roomI n ∧ (8 < roomI n → 3 * (roomI n / 2) < 4 * n) := by
  unfold roomI; repeat' split
  all_goals omega
def sp_room (K : PySem.W.Frag) (C : Cs) : Sp := fun vs H Q _ => ∃ n : Int, vs = [.int n] ∧ 0 ≤ n ∧ n ≤ 192 ∧ Q (.int (roomI n)) H
def sp_look_for (K : PySem.W.Frag) (C : Cs) : Sp := fun vs H Q E => ∃ (a : Addr) (n : Nat) (f : Nat → Option Int) (x : V) (s : Ty), vs = [.ref a, x] ∧ SqL K H a (row n f) ∧ 1 ≤ n ∧ n ≤ 1024 ∧ (∃ e, e < n ∧ f e = none) ∧ tyOf H x = some s ∧
  (isG x = false → E (.ref C.cNoGuest) none H) ∧ ∀ g, x = .int g → isG x = true → ∀ (H' : Hp) (t : Addr) (p : Nat), Same H H' → p < n → Ring.Loc n (hm n) f g p → H' t = some (.tup [.int p, .int ((Ring.far n (hm n g) p + 1 : Nat) : Int)]) → Q (.ref t) H'
def sp_place_of (K : PySem.W.Frag) (C : Cs) : Sp := fun vs H Q E => ∃ (a : Addr) (n : Nat) (f : Nat → Option Int) (x : V) (s : Ty), vs = [.ref a, x] ∧ SqL K H a (row n f) ∧ 1 ≤ n ∧ n ≤ 1024 ∧ (∃ e, e < n ∧ f e = none) ∧ tyOf H x = some s ∧
  (isG x = false → E (.ref C.cNoGuest) none H) ∧ ∀ g, x = .int g → isG x = true → ∀ (H' : Hp) (p : Nat), Same H H' → p < n → Ring.Loc n (hm n) f g p → Q (if f p = some g then .int p else .non) H'
def sp_take_seat (K : PySem.W.Frag) (C : Cs) : Sp := fun vs H Q _ => ∃ (a : Addr) (n : Nat) (f : Nat → Option Int) (g : Int), vs = [.ref a, .int g] ∧ H a = some (.lst (row n f)) ∧ 2 ≤ n ∧ n ≤ 1024 ∧ Ring.Path n (hm n) f ∧ (∃ e, e < n ∧ f e = none) ∧ ¬ Ring.Sits n f g ∧ isG (.int g) = true ∧
  ∀ (H' : Hp) (f' : Nat → Option Int) (p : Nat), Off a H H' → H' a = some (.lst (row n f')) → Ring.Path n (hm n) f' → (∀ x, Ring.Sits n f' x ↔ Ring.Sits n f x ∨ x = g) → p < n → f' p = some g → Q (.int p) H'
def sp_leave_seat (K : PySem.W.Frag) (C : Cs) : Sp := fun vs H Q _ => ∃ (a : Addr) (n : Nat) (f : Nat → Option Int) (p : Nat) (g : Int), vs = [.ref a, .int p] ∧ H a = some (.lst (row n f)) ∧ 2 ≤ n ∧ n ≤ 1024 ∧ Ring.Path n (hm n) f ∧ (∃ e, e < n ∧ f e = none) ∧ p < n ∧ f p = some g ∧
  ∀ f', Ring.Path n (hm n) f' → (∀ x, Ring.Sits n f' x ↔ Ring.Sits n f x ∧ x ≠ g) → Q .non (upd H a (.lst (row n f')))
theorem all_ints {xs : List V} (h : ∀ x ∈ xs, isG x = true) : ∃ gs : List Int, xs = gs.map V.int ∧ ∀ g ∈ gs, isG (.int g) = true := by
  induction xs with
  | nil => exact ⟨[], rfl, fun _ h => nomatch h⟩
  | cons x xs ih =>
    obtain ⟨gs, rfl, hg⟩ := ih fun y hy => h y (List.mem_cons_of_mem _ hy)
    obtain ⟨g, rfl⟩ := isG_int (h x List.mem_cons_self)
    refine ⟨g :: gs, rfl, fun y hy => ?_⟩
    rcases List.mem_cons.mp hy with rfl | hy
    · exact h _ List.mem_cons_self
    · exact hg y hy
def sp_looked_through (K : PySem.W.Frag) (C : Cs) : Sp := fun vs H Q E => ∃ (a : Addr) (xs : List V) (n : Nat), vs = [.ref a, .int n] ∧ SqL K H a xs ∧ xs.length ≤ 1000 ∧ (∀ x ∈ xs, ∃ s, tyOf H x = some s) ∧
  ((∃ x ∈ xs, isG x = false) → E (.ref C.cNoGuest) none H) ∧ ∀ gs : List Int, xs = gs.map V.int → (∀ g ∈ gs, isG (.int g) = true) → (¬ gs.Nodup → E (.ref C.cTwice) none H) ∧ (gs.Nodup → n ≤ gs.length → E (.ref C.cFull) none H) ∧ (gs.Nodup → gs.length < n → Q .non H)
def sp_seated (K : PySem.W.Frag) (C : Cs) : Sp := fun vs H Q E => ∃ (a : Addr) (xs : List V) (n : Nat), vs = [.ref a, .int n] ∧ SqL K H a xs ∧ xs.length ≤ 1000 ∧ 2 ≤ n ∧ n ≤ 1024 ∧ (∀ x ∈ xs, ∃ s, tyOf H x = some s) ∧
  ((∃ x ∈ xs, isG x = false) → E (.ref C.cNoGuest) none H) ∧ ∀ gs : List Int, xs = gs.map V.int → (∀ g ∈ gs, isG (.int g) = true) → (¬ gs.Nodup → E (.ref C.cTwice) none H) ∧ (gs.Nodup → n ≤ gs.length → E (.ref C.cFull) none H) ∧
    (gs.Nodup → gs.length < n → ∀ (H' : Hp) (s : Addr) (f : Nat → Option Int), Same H H' → H' s = some (.lst (row n f)) → H s = none → Seat n f gs → Q (.ref s) H')
structure Hs (C : Cs) (H : Hp) (p : Addr) (M : Nat) (s : Addr) (n : Nat) (f : Nat → Option Int) (gs : List Int) : Prop extends Hs0 C H p M s n f gs where
  rm : (n : Int) = roomI gs.length
  lM : gs.length ≤ M
  M3 : M ≤ 192
theorem Hs.same {C : Cs} {H H' : Hp} {p : Addr} {M : Nat} {s : Addr} {n : Nat} {f : Nat → Option Int} {gs : List Int} (h : Hs C H p M s n f gs) (e : Same H H') : Hs C H' p M s n f gs := ⟨h.toHs0.same e, h.rm, h.lM, h.M3⟩
theorem roomI_nat {c : Nat} (h : c ≤ 192) : ∃ n : Nat, roomI (c : Int) = (n : Int) ∧ 8 ≤ n ∧ n ≤ 256 ∧ 4 * c ≤ 3 * n := by
  obtain ⟨h1, h2, _⟩ := roomI_ok (c : Int) (by omega) (by omega)
  exact ⟨(roomI c).toNat, by omega, by omega, by omega, by omega⟩
def sp_House_init (K : PySem.W.Frag) (C : Cs) : Sp := fun vs H Q E => ∃ (p dx : Addr) (x : V) (t : Ty), vs = [.ref p, x] ∧ H p = some (.ins C.cHouse dx []) ∧ tyOf H x = some t ∧
  (∀ M : Nat, x = .int M → M ≤ 192 → ∀ (H' : Hp) (s : Addr), Off p H H' → H s = none → Hs C H' p M s 8 (fun _ => none) [] → Q .non H') ∧
  ((∀ i : Int, x = .int i → i < 0 ∨ 192 < i) → E (.ref C.cNoSize) none H)
def sp_House_come (K : PySem.W.Frag) (C : Cs) : Sp := fun vs H Q E => ∃ (p : Addr) (M : Nat) (s : Addr) (n : Nat) (f : Nat → Option Int) (gs : List Int) (x : V) (t : Ty), vs = [.ref p, x] ∧ Hs C H p M s n f gs ∧ tyOf H x = some t ∧
  (isG x = false → E (.ref C.cNoGuest) none H) ∧ ∀ g, x = .int g → isG x = true → (g ∈ gs → ∀ H', Same H H' → E (.ref C.cTwice) none H') ∧ (g ∉ gs → M ≤ gs.length → ∀ H', Same H H' → E (.ref C.cFull) none H') ∧
    (g ∉ gs → gs.length < M → ∀ (H' : Hp) (s' : Addr) (n' : Nat) (f' : Nat → Option Int) (q : Nat), Off2 p s H H' → (s' = s ∨ H s' = none) → Hs C H' p M s' n' f' (gs ++ [g]) → q < n' → f' q = some g → Q (.int q) H')
def sp_House_go (K : PySem.W.Frag) (C : Cs) : Sp := fun vs H Q E => ∃ (p : Addr) (M : Nat) (s : Addr) (n : Nat) (f : Nat → Option Int) (gs : List Int) (x : V) (t : Ty), vs = [.ref p, x] ∧ Hs C H p M s n f gs ∧ tyOf H x = some t ∧
  (isG x = false → E (.ref C.cNoGuest) none H) ∧ ∀ g, x = .int g → isG x = true → (g ∉ gs → ∀ H', Same H H' → E (.ref C.cAway) none H') ∧
    (g ∈ gs → ∀ (H' : Hp) (s' : Addr) (n' : Nat) (f' : Nat → Option Int) (q : Nat), Off2 p s H H' → (s' = s ∨ H s' = none) → Hs C H' p M s' n' f' (offG gs g) → q < n → f q = some g → Q (.int q) H')
def sp_House_seat_of (K : PySem.W.Frag) (C : Cs) : Sp := fun vs H Q E => ∃ (p : Addr) (M : Nat) (s : Addr) (n : Nat) (f : Nat → Option Int) (gs : List Int) (x : V) (t : Ty), vs = [.ref p, x] ∧ Hs0 C H p M s n f gs ∧ tyOf H x = some t ∧
  (isG x = false → E (.ref C.cNoGuest) none H) ∧ ∀ g, x = .int g → isG x = true → ∀ (H' : Hp) (q : Nat), Same H H' → q < n → Ring.Loc n (hm n) f g q → Q (if f q = some g then .int q else .non) H'
def sp_House_row (K : PySem.W.Frag) (C : Cs) : Sp := fun vs H Q _ => ∃ (p : Addr) (M : Nat) (s : Addr) (n : Nat) (f : Nat → Option Int) (gs : List Int), vs = [.ref p] ∧ Hs0 C H p M s n f gs ∧ ∀ d, H d = none → Q (.ref d) (upd H d (.lst (row n f)))
def sp_House_guests (K : PySem.W.Frag) (C : Cs) : Sp := fun vs H Q _ => ∃ (p : Addr) (M : Nat) (s : Addr) (n : Nat) (f : Nat → Option Int) (gs : List Int), vs = [.ref p] ∧ Hs0 C H p M s n f gs ∧
  ∀ (H' : Hp) (d : Addr) (ys : List Int), Same H H' → H d = none → H' d = some (.lst (ys.map V.int)) → ys.Perm gs → ys.Pairwise (· ≤ ·) → Q (.ref d) H'
def sp_House_many (K : PySem.W.Frag) (C : Cs) : Sp := fun vs H Q _ => ∃ (p : Addr) (M : Nat) (s : Addr) (n : Nat) (f : Nat → Option Int) (gs : List Int), vs = [.ref p] ∧ Hs0 C H p M s n f gs ∧ Q (.int (gs.length : Nat)) H
def cellI (ns : List Int) (k : Int) : Int := if k < ns.length then ns.getD k.toNat 0 else 0
def sp_law_cell_at (K : PySem.W.Frag) (C : Cs) : Sp := fun vs H Q _ => ∃ (a : Addr) (ns : List Int) (k : Int), vs = [.ref a, .int k] ∧ SqL K H a (ns.map V.int) ∧ 0 ≤ k ∧ Q (.int (cellI ns k)) H
def sp_law_whole (K : PySem.W.Frag) (C : Cs) : Sp := fun vs H Q _ => ∃ (x : V) (s : Ty), vs = [x] ∧ tyOf H x = some s ∧ Q (.bl (isWh x)) H
def sp_law_home (K : PySem.W.Frag) (C : Cs) : Sp := fun vs H Q _ => ∃ g n : Int, vs = [.int g, .int n] ∧ 0 < n ∧ Q (.int (homeI g n)) H
theorem far_before_is {n k : Nat} (hk : k < n) (g : Int) : ((k : Int) - 1 - homeI g n) % (n : Int) = (Ring.far n (hm n g) (Ring.pv n k) : Int) := by
  have hn : 0 < n := by omega
  rw [hm_is hn, ← mod_far (hm_lt hn g) (Ring.pv_lt hk), ← pv_is hk, Int.emod_sub_emod]
def sp_law_settled (K : PySem.W.Frag) (C : Cs) : Sp := fun vs H Q _ => ∃ (s a : Addr) (n : Nat) (f : Nat → Option Int) (gs : List Int), vs = [.ref s, .ref a] ∧ H s = some (.lst (row n f)) ∧ SqL K H a (gs.map V.int) ∧ n ≤ 1024 ∧ Ring.Path n (hm n) f ∧ (∃ e, e < n ∧ f e = none) ∧ (Ring.gl n f).Perm gs ∧ (n : Int) = roomI gs.length ∧ gs.length ≤ 192 ∧ ∀ H', Same H H' → Q (.bl true) H'
def sp_law_size (K : PySem.W.Frag) (C : Cs) : Sp := fun vs H Q _ => ∃ c : Int, vs = [.int c] ∧ ∀ (H' : Hp) (x : V) (s : Ty), Same H H' → tyOf H' x = some s → (∀ i : Int, x = .int i → i < 0 ∨ 192 < i) → Q x H'
def sp_law_odd (K : PySem.W.Frag) (C : Cs) : Sp := fun vs H Q _ => ∃ c : Int, vs = [.int c] ∧ ∀ (H' : Hp) (x : V) (s : Ty), Same H H' → tyOf H' x = some s → isG x = false → (∀ b, x = .ref b → H b = none) → Q x H'
def sp_law_kinds (K : PySem.W.Frag) (C : Cs) : Addr → Value → Option Addr → Sp := fun a cls d vs H Q _ => ∃ x : Ek, vs = [.ref a] ∧ cls = .ref (C.of x) ∧ d = none ∧ ∀ l, H l = none → Q (.ref l) (upd H l (.lst (kindsL x)))
/-- the suite that tells of the refusal -/
theorem told {K : PySem.W.Frag} {C : Cs} {x : Ek} {a : Addr} {i : Nat} {D : Ends} {σ : L2.St} {H : Hp} (e : σ[i]? = some (some (.ref a))) (k : ∀ l, H l = none → D.rt (.ref l) (upd H l (.lst (kindsL x)))) :
    tRet (tCallE (sp_law_kinds K C a (.ref (C.of x)) none) (tCons (tVar i) tNil)) D σ H := ⟨_, e, x, rfl, rfl, rfl, k⟩
def sp_law_only (K : PySem.W.Frag) (C : Cs) : Sp := fun vs H Q _ => ∃ x : Ek, vs = [.int (ekI x : Nat)] ∧ ∀ (H' : Hp) (l : Addr), Same H H' → H' l = some (.lst (kindsL x)) → Q (.ref l) H'
def sp_law_made (K : PySem.W.Frag) (C : Cs) : Sp := fun vs H Q _ => ∃ (x : V) (t : Ty), vs = [x] ∧ tyOf H x = some t ∧ (∀ i : Int, x = .int i → i < 0 ∨ 192 < i) ∧ ∀ (H' : Hp) (l : Addr), Same H H' → H' l = some (.lst (kindsL .noSize)) → Q (.ref l) H'
def sp_law_comes (K : PySem.W.Frag) (C : Cs) : Sp := fun vs H Q _ => ∃ (p : Addr) (M : Nat) (s : Addr) (n : Nat) (f : Nat → Option Int) (gs : List Int) (x : V) (t : Ty) (k : Ek), vs = [.ref p, x] ∧ Hs C H p M s n f gs ∧ tyOf H x = some t ∧
  (isG x = false → k = .noGuest) ∧ (∀ g, x = .int g → isG x = true → (g ∈ gs ∧ k = .twice) ∨ (g ∉ gs ∧ M ≤ gs.length ∧ k = .full)) ∧ ∀ (H' : Hp) (l : Addr), Same H H' → H' l = some (.lst (kindsL k)) → Q (.ref l) H'
def sp_law_goes (K : PySem.W.Frag) (C : Cs) : Sp := fun vs H Q _ => ∃ (p : Addr) (M : Nat) (s : Addr) (n : Nat) (f : Nat → Option Int) (gs : List Int) (x : V) (t : Ty) (k : Ek), vs = [.ref p, x] ∧ Hs C H p M s n f gs ∧ tyOf H x = some t ∧
  (isG x = false → k = .noGuest) ∧ (∀ g, x = .int g → isG x = true → g ∉ gs → k = .away) ∧ (∀ (H' : Hp) (l : Addr), (isG x = true → ∀ g, x = .int g → g ∉ gs) → Same H H' → H' l = some (.lst (kindsL k)) → Q (.ref l) H') ∧
  ∀ g, x = .int g → isG x = true → g ∈ gs → ∀ (H' : Hp) (s' : Addr) (n' : Nat) (f' : Nat → Option Int) (l : Addr), Off2 p s H H' → (s' = s ∨ H s' = none) → Hs C H' p M s' n' f' (offG gs g) → H' l = some (.lst []) → Q (.ref l) H'
def sp_law_looked_for (K : PySem.W.Frag) (C : Cs) : Sp := fun vs H Q _ => ∃ (p : Addr) (M : Nat) (s : Addr) (n : Nat) (f : Nat → Option Int) (gs : List Int) (x : V) (t : Ty), vs = [.ref p, x] ∧ Hs0 C H p M s n f gs ∧ tyOf H x = some t ∧ isG x = false ∧
  ∀ (H' : Hp) (l : Addr), Same H H' → H' l = some (.lst (kindsL .noGuest)) → Q (.ref l) H'
def sp_law_sits (K : PySem.W.Frag) (C : Cs) : Sp := fun vs H Q _ => ∃ (p : Addr) (M : Nat) (s : Addr) (n : Nat) (f : Nat → Option Int) (gs : List Int) (g : Int), vs = [.ref p, .int g] ∧ Hs C H p M s n f gs ∧ isG (.int g) = true ∧ g ∉ gs ∧ gs.length < M ∧
  ∀ (H' : Hp) (s' : Addr) (n' : Nat) (f' : Nat → Option Int), Off2 p s H H' → (s' = s ∨ H s' = none) → Hs C H' p M s' n' f' (gs ++ [g]) → Q (.bl true) H'
def sp_law_there (K : PySem.W.Frag) (C : Cs) : Sp := fun vs H Q _ => ∃ (p : Addr) (M : Nat) (s : Addr) (n : Nat) (f : Nat → Option Int) (gs : List Int) (a : Addr), vs = [.ref p, .ref a] ∧ Hs0 C H p M s n f gs ∧ SqL K H a (gs.map V.int) ∧ ∀ H', Same H H' → Q (.bl true) H'
def sp_law_no_guest (K : PySem.W.Frag) (C : Cs) : Sp := fun vs H Q _ => ∃ (p : Addr) (M : Nat) (s : Addr) (n : Nat) (f : Nat → Option Int) (gs : List Int) (x : V) (t : Ty), vs = [.ref p, x] ∧ Hs C H p M s n f gs ∧ tyOf H x = some t ∧ isG x = false ∧ ∀ H', Same H H' → Q (.bl true) H'
def sp_law_most (K : PySem.W.Frag) (C : Cs) : Sp := fun vs H Q _ => ∃ c : Int, vs = [.int c] ∧ ∀ (M : Nat) (H' : Hp), Same H H' → M ≤ 192 → (c % 4 = 1 → M = 96) → Q (.int (M : Nat)) H'
theorem range_g {F : Nat → Int} {N : Nat} (h : ∀ i j, i < j → j < N → F i ≠ F j) : ((List.range N).map F).Nodup := by
  rw [List.Nodup, List.pairwise_map]
  refine List.pairwise_lt_range.imp_of_mem fun {i j} hi hj hij => h i j hij (List.mem_range.mp hj)
theorem range_next {F : Nat → Int} {N : Nat} : ((List.range (N + 1)).map F).map V.int = ((List.range N).map F).map V.int ++ [.int (F N)] := by
  rw [List.range_succ, List.map_append, List.map_append]; rfl
def sp_law_all (K : PySem.W.Frag) (C : Cs) : Sp := fun vs H Q _ => ∃ (c b : Int) (M : Nat), vs = [.int c, .int b, .int M] ∧ 0 ≤ b ∧ b < 100000000000000000000000000000000000000000000000000000000000 ∧ M ≤ 192 ∧ ∀ (H' : Hp) (l : Addr) (gs : List Int), Same H H' → H l = none → H' l = some (.lst (gs.map V.int)) → gs.length = M + 1 → gs.Nodup → (∀ x ∈ gs, isG (.int x) = true) → Q (.ref l) H'
def sp_law_house (K : PySem.W.Frag) (C : Cs) : Sp := fun vs H Q _ => ∃ (c : Int) (M : Nat), vs = [.int c, .int M] ∧ M ≤ 192 ∧ (c % 4 = 1 → M = 96) ∧ ∀ (H' : Hp) (p : Addr) (s : Addr), Same H H' → Hs C H' p M s 8 (fun _ => none) [] → H p = none → H s = none → Q (.ref p) H'
def sp_law0 (K : PySem.W.Frag) : Sp := fun vs H Q _ => ∃ (a : Addr) (ns : List Int), vs = [.ref a] ∧ SqL K H a (ns.map V.int) ∧ ns.length ≤ 63 ∧ ∀ H', Q (.bl true) H'
def sp_law (K : PySem.W.Frag) (C : Cs) : Sp := sp_law0 K
theorem row_ints {n : Nat} {f : Nat → Option Int} {ns : List Int} (he : ∃ e, e < n ∧ f e = none) : row n f ≠ ns.map V.int := fun z => by
  obtain ⟨e, he, h0⟩ := he
  have h1 := row_get (f := f) he
  rw [h0, z] at h1
  obtain ⟨i, _, h2⟩ := List.mem_map.mp (List.mem_of_getElem? h1)
  cases h2
section
variable {K : PySem.W.Frag} {C : Cs} {H H' : Hp} {p s s' a : Addr} {M n : Nat} {f : Nat → Option Int} {gs ns : List Int} {x : V} {t : Ty}
theorem ints_ne (h : Hs0 C H p M s n f gs) (x : H a = some (.lst (ns.map V.int))) : a ≠ p ∧ a ≠ s := by
  obtain ⟨dx, hp⟩ := h.hp
  refine ⟨(fun z => by rw [z, hp] at x; cases x), fun z => ?_⟩
  rw [z, h.hs] at x
  have n2 := h.n2
  exact row_ints (h.S.e (by omega)) (HO.lst.inj (Option.some.inj x))
theorem ints_off2 (h : Hs0 C H p M s n f gs) (o : Off2 p s H H') (x : SqL K H a (ns.map V.int)) : SqL K H' a (ns.map V.int) := by
  obtain ⟨dx, hp⟩ := h.hp
  rcases x with (x | ⟨ob, x⟩) | x
  · exact .inl (.inl (o _ _ (ints_ne h x).1 (ints_ne h x).2 x))
  · exact .inl (.inr ⟨ob, o _ _ (fun z => by rw [z, hp] at x; cases x) (fun z => by rw [z, h.hs] at x; cases x) x⟩)
  · exact .inr x
/-- a thing that is not the row -/
def Odd (H : Hp) (s : Addr) (x : V) (t : Ty) : Prop := tyOf H x = some t ∧ ∀ b, x = .ref b → b ≠ s
theorem Odd.same (d : Odd H s x t) (e : Same H H') : Odd H' s x t := ⟨tyOf_same d.1 e, d.2⟩
theorem Odd.off {l : Addr} (d : Odd H s x t) (o : Off l H H') (e : ∀ b, x = .ref b → b ≠ l) : Odd H' s x t := by
  obtain ⟨h1, h2⟩ := d
  cases x with
  | ref b =>
    have h3 : (H b).bind hoTy = some t := h1
    cases hb : H b with
    | none => rw [hb] at h3; cases h3
    | some ob =>
      refine ⟨?_, h2⟩
      show (H' b).bind hoTy = some t
      rw [o b ob (e b rfl) hb]
      rw [hb] at h3; exact h3
  | _ => exact ⟨h1, h2⟩
theorem Odd.off2 (d : Odd H s x t) (h : Hs0 C H p M s n f gs) (o : Off2 p s H H') (e : s' = s ∨ H s' = none) : Odd H' s' x t := by
  obtain ⟨dx, hp⟩ := h.hp
  obtain ⟨h1, h2⟩ := d
  cases x with
  | ref b =>
    have h3 : (H b).bind hoTy = some t := h1
    cases hb : H b with
    | none => rw [hb] at h3; cases h3
    | some ob =>
      have hbs := h2 b rfl
      refine ⟨?_, fun b' eb => ?_⟩
      · show (H' b).bind hoTy = some t
        rw [o b ob (fun z => by rw [z, hp] at h3; cases h3) hbs hb]
        rw [hb] at h3; exact h3
      · cases eb
        rcases e with e | e
        · rw [e]; exact hbs
        · exact fun z => by rw [z, e] at hb; cases hb
  | _ => exact ⟨h1, fun b z => nomatch z⟩
end
end RS
namespace RS
open PySem PySem.Spec PyProof.Rows L2
def t_is_guest (K : PySem.W.Frag) (C : Cs) (E : XK) : TS :=
  (tSeq (tIfS (tOr (tNot (tB (tCB (rIsA .int) (tCons (tVar 0) (tCons (tC (.ty "int")) tNil))))) (tB (tCB (rIsA .bool) (tCons (tVar 0) (tCons (tC (.ty "bool")) tNil))))) (tRet (tC (.bl false))) tNext)
    (tRet (tAndV (tOp rLe (tC (.int 0)) (tVar 0)) (tOp rLt (tVar 0) (tC (.int 1000000000000000000000000000000000000000000000000000000000000))))))
def t_home (K : PySem.W.Frag) (C : Cs) (E : XK) : TS :=
  (tRet (tOp rMod (tOp rMod (tOp rAdd (tOp rMul (tVar 0) (tC (.int 40503))) (tOp rFdv (tVar 0) (tC (.int 65536)))) (tC (.int 65536))) (tVar 1)))
def t_carried (K : PySem.W.Frag) (C : Cs) (E : XK) : TS :=
  (tRet (tOp rMod (tOp rSub (tVar 1) (tCall (sp_home K C) [] E0 (tCons (tVar 0) (tCons (tVar 2) tNil)))) (tVar 2)))
def t_ahead (K : PySem.W.Frag) (C : Cs) (E : XK) : TS :=
  (tSeq (tAsg (tCall (sp_carried K C) [] E0 (tCons (tVar 0) (tCons (tVar 2) (tCons (tVar 3) tNil)))) (gName 4))
    (tSeq (tAsg (tCall (sp_carried K C) [] E0 (tCons (tVar 1) (tCons (tVar 2) (tCons (tVar 3) tNil)))) (gName 5))
    (tSeq (tIfS (tTest (tOp rNe (tVar 4) (tVar 5))) (tRet (tOp rGt (tVar 4) (tVar 5))) tNext)
    (tRet (tOp rLt (tVar 0) (tVar 1))))))
def t_room_b1 (K : PySem.W.Frag) (C : Cs) (E : XK) : TS :=
  (tAsg (tOp rMul (tC (.int 2)) (tVar 1)) (gName 1))
def t_room (K : PySem.W.Frag) (C : Cs) (E : XK) : TS :=
  (tSeq (tAsg (tC (.int 8)) (gName 1))
    (tSeq (tWhile (tTest (tOp rGt (tOp rMul (tC (.int 4)) (tVar 0)) (tOp rMul (tC (.int 3)) (tVar 1)))) (t_room_b1 K C E))
    (tRet (tVar 1))))
def t_look_for_b1 (K : PySem.W.Frag) (C : Cs) (E : XK) : TS :=
  (tSeq (tAsg (tOp rMod (tOp rAdd (tVar 3) (tC (.int 1))) (tVar 2)) (gName 3))
    (tAsg (tOp rAdd (tVar 4) (tC (.int 1))) (gName 4)))
def t_look_for (K : PySem.W.Frag) (C : Cs) (E : XK) : TS :=
  (tSeq (tIfS (tNot (tB (tCall (sp_is_guest K C) [] E0 (tCons (tVar 1) tNil)))) (fun _ _ H => E (.ref C.cNoGuest) none H) tNext)
    (tSeq (tAsg (tCB (rLenS K) (tCons (tVar 0) tNil)) (gName 2))
    (tSeq (tAsg (tCall (sp_home K C) [] E0 (tCons (tVar 1) (tCons (tVar 2) tNil))) (gName 3))
    (tSeq (tAsg (tC (.int 1)) (gName 4))
    (tSeq (tWhile (tAnd (tB (tNotN (tOp (rIxL K) (tVar 0) (tVar 3)))) (tB (tCall (sp_ahead K C) [] E0 (tCons (tOp (rIxL K) (tVar 0) (tVar 3)) (tCons (tVar 1) (tCons (tVar 3) (tCons (tVar 2) tNil))))))) (t_look_for_b1 K C E))
    (tRet (tTup (tCons (tVar 3) (tCons (tVar 4) tNil)))))))))
def t_place_of (K : PySem.W.Frag) (C : Cs) (E : XK) : TS :=
  (tSeq (tAsg (tOp (rIxT K) (tCall (sp_look_for K C) [] E (tCons (tVar 0) (tCons (tVar 1) tNil))) (tC (.int 0))) (gName 2))
    (tSeq (tIfS (tTest (tOp rEq (tOp (rIxL K) (tVar 0) (tVar 2)) (tVar 1))) (tRet (tVar 2)) tNext)
    (tRet (tC .non))))
def t_take_seat_b1 (K : PySem.W.Frag) (C : Cs) (E : XK) : TS :=
  (tSeq (tAsg (tOp (rIxL K) (tVar 0) (tVar 2)) (gName 4))
    (tSeq (tAsg (tVar 1) (gSub (tVar 0) (tVar 2) rSetL))
    (tSeq (tAsg (tVar 4) (gName 1))
    (tAsg (tOp rMod (tOp rAdd (tVar 2) (tC (.int 1))) (tCB (rLenS K) (tCons (tVar 0) tNil))) (gName 2)))))
def t_take_seat (K : PySem.W.Frag) (C : Cs) (E : XK) : TS :=
  (tSeq (tAsg (tOp (rIxT K) (tCall (sp_look_for K C) [] E (tCons (tVar 0) (tCons (tVar 1) tNil))) (tC (.int 0))) (gName 2))
    (tSeq (tAsg (tVar 2) (gName 3))
    (tSeq (tWhile (tB (tNotN (tVar 1))) (t_take_seat_b1 K C E))
    (tRet (tVar 3)))))
def t_leave_seat_b1 (K : PySem.W.Frag) (C : Cs) (E : XK) : TS :=
  (tSeq (tAsg (tOp (rIxL K) (tVar 0) (tVar 3)) (gSub (tVar 0) (tVar 1) rSetL))
    (tSeq (tAsg (tVar 3) (gName 1))
    (tAsg (tOp rMod (tOp rAdd (tVar 1) (tC (.int 1))) (tVar 2)) (gName 3))))
def t_leave_seat (K : PySem.W.Frag) (C : Cs) (E : XK) : TS :=
  (tSeq (tAsg (tCB (rLenS K) (tCons (tVar 0) tNil)) (gName 2))
    (tSeq (tAsg (tOp rMod (tOp rAdd (tVar 1) (tC (.int 1))) (tVar 2)) (gName 3))
    (tSeq (tWhile (tAnd (tB (tNotN (tOp (rIxL K) (tVar 0) (tVar 3)))) (tTest (tOp rGt (tCall (sp_carried K C) [] E0 (tCons (tOp (rIxL K) (tVar 0) (tVar 3)) (tCons (tVar 3) (tCons (tVar 2) tNil)))) (tC (.int 0))))) (t_leave_seat_b1 K C E))
    (tAsg (tC .non) (gSub (tVar 0) (tVar 1) rSetL)))))
def t_looked_through_b1 (K : PySem.W.Frag) (C : Cs) (E : XK) : TS :=
  (tIfS (tNot (tB (tCall (sp_is_guest K C) [] E0 (tCons (tVar 2) tNil)))) (fun _ _ H => E (.ref C.cNoGuest) none H) tNext)
def t_looked_through (K : PySem.W.Frag) (C : Cs) (E : XK) : TS :=
  (tSeq (tFor (iList K (tVar 0)) (gName 2) (t_looked_through_b1 K C E))
    (tSeq (tIfS (tTest (tOp rLt (tLenSet K (tVar 0)) (tCB (rLenS K) (tCons (tVar 0) tNil)))) (fun _ _ H => E (.ref C.cTwice) none H) tNext)
    (tIfS (tTest (tOp rGe (tCB (rLenS K) (tCons (tVar 0) tNil)) (tVar 1))) (fun _ _ H => E (.ref C.cFull) none H) tNext)))
def t_seated_b1 (K : PySem.W.Frag) (C : Cs) (E : XK) : TS :=
  (tDrop (tCall (sp_take_seat K C) [] E (tCons (tVar 2) (tCons (tVar 3) tNil))))
def t_seated (K : PySem.W.Frag) (C : Cs) (E : XK) : TS :=
  (tSeq (tDrop (tCall (sp_looked_through K C) [] E (tCons (tVar 0) (tCons (tVar 1) tNil))))
    (tSeq (tAsg (tOp rRep (tLst (tCons (tC .non) tNil)) (tVar 1)) (gName 2))
    (tSeq (tFor (iList K (tVar 0)) (gName 3) (t_seated_b1 K C E))
    (tRet (tVar 2)))))
def t_House_init (K : PySem.W.Frag) (C : Cs) (E : XK) : TS :=
  (tSeq (tIfS (tOr (tNot (tB (tCB (rIsA .int) (tCons (tVar 1) (tCons (tC (.ty "int")) tNil))))) (tOr (tB (tCB (rIsA .bool) (tCons (tVar 1) (tCons (tC (.ty "bool")) tNil)))) (tOr (tTest (tOp rLt (tVar 1) (tC (.int 0)))) (tTest (tOp rGt (tVar 1) (tC (.int 192))))))) (fun _ _ H => E (.ref C.cNoSize) none H) tNext)
    (tSeq (sFld K (tVar 0) (tVar 1) "most")
    (sFld K (tVar 0) (tOp rRep (tLst (tCons (tC .non) tNil)) (tCall (sp_room K C) [] E0 (tCons (tC (.int 0)) tNil))) "seats")))
def t_House_come (K : PySem.W.Frag) (C : Cs) (E : XK) : TS :=
  (tSeq (tIfS (tB (tNotN (tCall (sp_place_of K C) [] E (tCons (tFld K (tVar 0) "seats") (tCons (tVar 1) tNil))))) (fun _ _ H => E (.ref C.cTwice) none H) tNext)
    (tSeq (tIfS (tTest (tOp rGe (tMeth C.cHouse "many" (sp_House_many K C) [] E0 (tVar 0) tNil) (tFld K (tVar 0) "most"))) (fun _ _ H => E (.ref C.cFull) none H) tNext)
    (tSeq (tAsg (tCall (sp_room K C) [] E0 (tCons (tOp rAdd (tMeth C.cHouse "many" (sp_House_many K C) [] E0 (tVar 0) tNil) (tC (.int 1))) tNil)) (gName 2))
    (tSeq (tIfS (tTest (tOp rNe (tVar 2) (tCB (rLenS K) (tCons (tFld K (tVar 0) "seats") tNil)))) (sFld K (tVar 0) (tCall (sp_seated K C) [] E (tCons (tMeth C.cHouse "guests" (sp_House_guests K C) [] E0 (tVar 0) tNil) (tCons (tVar 2) tNil))) "seats") tNext)
    (tRet (tCall (sp_take_seat K C) [] E (tCons (tFld K (tVar 0) "seats") (tCons (tVar 1) tNil))))))))
def t_House_go (K : PySem.W.Frag) (C : Cs) (E : XK) : TS :=
  (tSeq (tAsg (tCall (sp_place_of K C) [] E (tCons (tFld K (tVar 0) "seats") (tCons (tVar 1) tNil))) (gName 2))
    (tSeq (tIfS (tB (tIsN (tVar 2))) (fun _ _ H => E (.ref C.cAway) none H) tNext)
    (tSeq (tDrop (tCall (sp_leave_seat K C) [] E0 (tCons (tFld K (tVar 0) "seats") (tCons (tVar 2) tNil))))
    (tSeq (tAsg (tCall (sp_room K C) [] E0 (tCons (tMeth C.cHouse "many" (sp_House_many K C) [] E0 (tVar 0) tNil) tNil)) (gName 3))
    (tSeq (tIfS (tTest (tOp rNe (tVar 3) (tCB (rLenS K) (tCons (tFld K (tVar 0) "seats") tNil)))) (sFld K (tVar 0) (tCall (sp_seated K C) [] E (tCons (tMeth C.cHouse "guests" (sp_House_guests K C) [] E0 (tVar 0) tNil) (tCons (tVar 3) tNil))) "seats") tNext)
    (tRet (tVar 2)))))))
def t_House_seat_of (K : PySem.W.Frag) (C : Cs) (E : XK) : TS :=
  (tRet (tCall (sp_place_of K C) [] E (tCons (tFld K (tVar 0) "seats") (tCons (tVar 1) tNil))))
def t_House_row (K : PySem.W.Frag) (C : Cs) (E : XK) : TS :=
  (tRet (tCB (rListS K) (tCons (tFld K (tVar 0) "seats") tNil)))
def t_House_guests (K : PySem.W.Frag) (C : Cs) (E : XK) : TS :=
  (tRet (tCB (rSortedI K) (tCons (tLc (iList K (tFld K (tVar 0) "seats")) (gName 1) (tB (tNotN (tVar 1))) (tVar 1) [1]) tNil)))
def t_House_many (K : PySem.W.Frag) (C : Cs) (E : XK) : TS :=
  (tRet (tOp rSub (tCB (rLenS K) (tCons (tFld K (tVar 0) "seats") tNil)) (tBM K "list" (rCount K) (tFld K (tVar 0) "seats") (tCons (tC .non) tNil))))
def t_law_cell_at (K : PySem.W.Frag) (C : Cs) (E : XK) : TS :=
  (tSeq (tIfS (tTest (tOp rLt (tVar 1) (tCB (rLenS K) (tCons (tVar 0) tNil)))) (tRet (tOp (rIxL K) (tVar 0) (tVar 1))) tNext)
    (tRet (tC (.int 0))))
def t_law_whole (K : PySem.W.Frag) (C : Cs) (E : XK) : TS :=
  (tRet (tAndV (tCB (rIsA .int) (tCons (tVar 0) (tCons (tC (.ty "int")) tNil))) (tNotV (tCB (rIsA .bool) (tCons (tVar 0) (tCons (tC (.ty "bool")) tNil))))))
def t_law_home (K : PySem.W.Frag) (C : Cs) (E : XK) : TS :=
  (tRet (tOp rMod (tOp rMod (tOp rAdd (tOp rMul (tVar 0) (tC (.int 40503))) (tOp rFdv (tVar 0) (tC (.int 65536)))) (tC (.int 65536))) (tVar 1)))
def t_law_settled_b1 (K : PySem.W.Frag) (C : Cs) (E : XK) : TS :=
  (tAsg (tOp rMul (tVar 2) (tC (.int 2))) (gName 2))
def t_law_settled_b2 (K : PySem.W.Frag) (C : Cs) (E : XK) : TS :=
  (tIfS (tB (tNotN (tOp (rIxL K) (tVar 0) (tVar 3)))) (tSeq (tIfS (tNot (tB (tCall (sp_law_whole K C) [] E0 (tCons (tOp (rIxL K) (tVar 0) (tVar 3)) tNil)))) (tRet (tC (.bl false))) tNext)
    (tSeq (tAsg (tOp rMod (tOp rSub (tVar 3) (tCall (sp_law_home K C) [] E0 (tCons (tOp (rIxL K) (tVar 0) (tVar 3)) (tCons (tVar 2) tNil)))) (tVar 2)) (gName 4))
    (tSeq (tIfS (tAnd (tTest (tOp rGt (tVar 4) (tC (.int 0)))) (tB (tIsN (tOp (rIxL K) (tVar 0) (tOp rSub (tVar 3) (tC (.int 1))))))) (tRet (tC (.bl false))) tNext)
    (tIfS (tTest (tOp rGt (tVar 4) (tC (.int 0)))) (tSeq (tAsg (tOp rAdd (tOp rMod (tOp rSub (tOp rSub (tVar 3) (tC (.int 1))) (tCall (sp_law_home K C) [] E0 (tCons (tOp (rIxL K) (tVar 0) (tOp rSub (tVar 3) (tC (.int 1)))) (tCons (tVar 2) tNil)))) (tVar 2)) (tC (.int 1))) (gName 5))
    (tIfS (tOr (tTest (tOp rLt (tVar 5) (tVar 4))) (tAnd (tTest (tOp rEq (tVar 5) (tVar 4))) (tTest (tOp rGe (tOp (rIxL K) (tVar 0) (tOp rSub (tVar 3) (tC (.int 1)))) (tOp (rIxL K) (tVar 0) (tVar 3)))))) (tRet (tC (.bl false))) tNext)) tNext)))) tNext)
def t_law_settled (K : PySem.W.Frag) (C : Cs) (E : XK) : TS :=
  (tSeq (tAsg (tC (.int 8)) (gName 2))
    (tSeq (tWhile (tTest (tOp rGt (tOp rMul (tC (.int 4)) (tCB (rLenS K) (tCons (tVar 1) tNil))) (tOp rMul (tC (.int 3)) (tVar 2)))) (t_law_settled_b1 K C E))
    (tSeq (tIfS (tOr (tNot (tB (tCB (rIsA .list) (tCons (tVar 0) (tCons (tC (.ty "list")) tNil))))) (tOr (tTest (tOp rNe (tCB (rLenS K) (tCons (tVar 0) tNil)) (tVar 2))) (tTest (tOp (rIn K true) (tC .non) (tVar 0))))) (tRet (tC (.bl false))) tNext)
    (tSeq (tFor (iRng1 (tCons (tVar 2) tNil)) (gName 3) (t_law_settled_b2 K C E))
    (tRet (tOp (rEqD K) (tCB (rSortedI K) (tCons (tLc (iList K (tVar 0)) (gName 6) (tB (tNotN (tVar 6))) (tVar 6) [6]) tNil)) (tCB (rSortedI K) (tCons (tVar 1) tNil))))))))
def t_law_size (K : PySem.W.Frag) (C : Cs) (E : XK) : TS :=
  (tSeq (tAsg (tOp rMod (tOp rFdv (tVar 0) (tC (.int 13))) (tC (.int 10000000000000000000000000000000000000000))) (gName 1))
    (tSeq (tAsg (tLst (tCons (tC (.bl true)) (tCons (tC (.bl false)) (tCons (tC .non) (tCons (tC (.str (PySem.Str.ofString ""))) (tCons (tC (.str (PySem.Str.ofString "8"))) (tCons (tLst (tCons (tC (.int 8)) tNil)) (tCons (tTup (tCons (tC (.int 8)) tNil)) (tCons tDNewK (tCons (tUn rNeg (tC (.int 1))) (tCons (tC (.int 193)) (tCons (tOp rSub (tUn rNeg (tC (.int 2))) (tVar 1)) (tCons (tOp rAdd (tC (.int 194)) (tVar 1)) (tCons (tLst tNil) tNil)))))))))))))) (gName 2))
    (tRet (tOp (rIxL K) (tVar 2) (tOp rMod (tVar 0) (tC (.int 13)))))))
def t_law_odd (K : PySem.W.Frag) (C : Cs) (E : XK) : TS :=
  (tSeq (tAsg (tOp rMod (tOp rFdv (tVar 0) (tC (.int 13))) (tC (.int 10000000000000000000000000000000000000000))) (gName 1))
    (tSeq (tAsg (tLst (tCons (tC (.bl true)) (tCons (tC (.bl false)) (tCons (tC .non) (tCons (tC (.str (PySem.Str.ofString ""))) (tCons (tC (.str (PySem.Str.ofString "7"))) (tCons (tLst (tCons (tC (.int 7)) tNil)) (tCons (tTup (tCons (tC (.int 7)) tNil)) (tCons tDNewK (tCons (tUn rNeg (tC (.int 1))) (tCons (tC (.int 1000000000000000000000000000000000000000000000000000000000000)) (tCons (tOp rSub (tUn rNeg (tC (.int 2))) (tVar 1)) (tCons (tOp rAdd (tOp rAdd (tC (.int 1000000000000000000000000000000000000000000000000000000000000)) (tC (.int 1))) (tVar 1)) (tCons (tLst tNil) tNil)))))))))))))) (gName 2))
    (tRet (tOp (rIxL K) (tVar 2) (tOp rMod (tVar 0) (tC (.int 13)))))))
def t_law_kinds (K : PySem.W.Frag) (C : Cs) (E : XK) (a : Addr) (cls : Value) (d : Option Addr) : TS :=
  (tSeq (tAsg (tCB (rIsX C cls d a) (tCons (tVar 0) (tCons (tC (.ty "ValueError")) tNil))) (gName 1))
    (tRet (tLst (tCons (tCB (rIsX C cls d a) (tCons (tVar 0) (tCons (tC (.ref C.cNoGuest)) tNil))) (tCons (tCB (rIsX C cls d a) (tCons (tVar 0) (tCons (tC (.ref C.cNoSize)) tNil))) (tCons (tCB (rIsX C cls d a) (tCons (tVar 0) (tCons (tC (.ref C.cTwice)) tNil))) (tCons (tCB (rIsX C cls d a) (tCons (tVar 0) (tCons (tC (.ref C.cAway)) tNil))) (tCons (tCB (rIsX C cls d a) (tCons (tVar 0) (tCons (tC (.ref C.cFull)) tNil))) (tCons (tVar 1) tNil)))))))))
def t_law_only (K : PySem.W.Frag) (C : Cs) (E : XK) : TS :=
  (tRet (tLc (iRng1 (tCons (tC (.int 6)) tNil)) (gName 1) tYes (tOrV (tOp rEq (tVar 1) (tVar 0)) (tOp rEq (tVar 1) (tC (.int 5)))) [1]))
def t_law_made_b1_try (K : PySem.W.Frag) (C : Cs) (E : XK) : WX → TS :=
  fun W => (tDrop (tMakeW C.cHouse (sp_House_init K C) (WE W) (tCons (tVar 0) tNil)))
def t_law_made_b1_exc (K : PySem.W.Frag) (C : Cs) (E : XK) : Addr → Value → Option Addr → TS :=
  fun a cls d => (tRet (tCallE (sp_law_kinds K C a cls d) (tCons (tVar 1) tNil)))
def t_law_made (K : PySem.W.Frag) (C : Cs) (E : XK) : TS :=
  (tSeq (tTryAs K C 1 (t_law_made_b1_try K C E) (t_law_made_b1_exc K C E) W0)
    (tRet (tLst tNil)))
def t_law_comes_b1_try (K : PySem.W.Frag) (C : Cs) (E : XK) : WX → TS :=
  fun W => (tDrop (tMethW C.cHouse "come" (sp_House_come K C) (WE W) (tVar 0) (tCons (tVar 1) tNil)))
def t_law_comes_b1_exc (K : PySem.W.Frag) (C : Cs) (E : XK) : Addr → Value → Option Addr → TS :=
  fun a cls d => (tRet (tCallE (sp_law_kinds K C a cls d) (tCons (tVar 2) tNil)))
def t_law_comes (K : PySem.W.Frag) (C : Cs) (E : XK) : TS :=
  (tSeq (tTryAs K C 2 (t_law_comes_b1_try K C E) (t_law_comes_b1_exc K C E) W0)
    (tRet (tLst tNil)))
def t_law_goes_b1_try (K : PySem.W.Frag) (C : Cs) (E : XK) : WX → TS :=
  fun W => (tDrop (tMethW C.cHouse "go" (sp_House_go K C) (WE W) (tVar 0) (tCons (tVar 1) tNil)))
def t_law_goes_b1_exc (K : PySem.W.Frag) (C : Cs) (E : XK) : Addr → Value → Option Addr → TS :=
  fun a cls d => (tRet (tCallE (sp_law_kinds K C a cls d) (tCons (tVar 2) tNil)))
def t_law_goes (K : PySem.W.Frag) (C : Cs) (E : XK) : TS :=
  (tSeq (tTryAs K C 2 (t_law_goes_b1_try K C E) (t_law_goes_b1_exc K C E) W0)
    (tRet (tLst tNil)))
def t_law_looked_for_b1_try (K : PySem.W.Frag) (C : Cs) (E : XK) : WX → TS :=
  fun W => (tDrop (tMethW C.cHouse "seat_of" (sp_House_seat_of K C) (WE W) (tVar 0) (tCons (tVar 1) tNil)))
def t_law_looked_for_b1_exc (K : PySem.W.Frag) (C : Cs) (E : XK) : Addr → Value → Option Addr → TS :=
  fun a cls d => (tRet (tCallE (sp_law_kinds K C a cls d) (tCons (tVar 2) tNil)))
def t_law_looked_for (K : PySem.W.Frag) (C : Cs) (E : XK) : TS :=
  (tSeq (tTryAs K C 2 (t_law_looked_for_b1_try K C E) (t_law_looked_for_b1_exc K C E) W0)
    (tRet (tLst tNil)))
def t_law_sits (K : PySem.W.Frag) (C : Cs) (E : XK) : TS :=
  (tSeq (tAsg (tMeth C.cHouse "come" (sp_House_come K C) [] E0 (tVar 0) (tCons (tVar 1) tNil)) (gName 2))
    (tSeq (tAsg (tMeth C.cHouse "row" (sp_House_row K C) [] E0 (tVar 0) tNil) (gName 3))
    (tRet (tAndV (tCall (sp_law_whole K C) [] E0 (tCons (tVar 2) tNil)) (tAndV (tChain rLe rLt (tC (.int 0)) (tVar 2) (tCB (rLenS K) (tCons (tVar 3) tNil))) (tAndV (tOp rEq (tOp (rIxL K) (tVar 3) (tVar 2)) (tVar 1)) (tOp rEq (tMeth C.cHouse "seat_of" (sp_House_seat_of K C) [] E0 (tVar 0) (tCons (tVar 1) tNil)) (tVar 2))))))))
def t_law_there_b1 (K : PySem.W.Frag) (C : Cs) (E : XK) : TS :=
  (tIfS (tNot (tB (tCall (sp_law_whole K C) [] E0 (tCons (tVar 4) tNil)))) (tRet (tC (.bl false))) tNext)
def t_law_there (K : PySem.W.Frag) (C : Cs) (E : XK) : TS :=
  (tSeq (tAsg (tMeth C.cHouse "many" (sp_House_many K C) [] E0 (tVar 0) tNil) (gName 2))
    (tSeq (tAsg (tMeth C.cHouse "guests" (sp_House_guests K C) [] E0 (tVar 0) tNil) (gName 3))
    (tSeq (tIfS (tOr (tNot (tB (tCall (sp_law_whole K C) [] E0 (tCons (tVar 2) tNil)))) (tOr (tTest (tOp rNe (tVar 2) (tCB (rLenS K) (tCons (tVar 1) tNil)))) (tNot (tB (tCB (rIsA .list) (tCons (tVar 3) (tCons (tC (.ty "list")) tNil))))))) (tRet (tC (.bl false))) tNext)
    (tSeq (tFor (iList K (tVar 3)) (gName 4) (t_law_there_b1 K C E))
    (tRet (tOp (rEqD K) (tVar 3) (tCB (rSortedI K) (tCons (tVar 1) tNil))))))))
def t_law_no_guest (K : PySem.W.Frag) (C : Cs) (E : XK) : TS :=
  (tSeq (tAsg (tCall (sp_law_only K C) [] E0 (tCons (tC (.int 0)) tNil)) (gName 2))
    (tRet (tAndV (tOp (rEqD K) (tCall (sp_law_comes K C) [] E0 (tCons (tVar 0) (tCons (tVar 1) tNil))) (tVar 2)) (tAndV (tOp (rEqD K) (tCall (sp_law_goes K C) [] E0 (tCons (tVar 0) (tCons (tVar 1) tNil))) (tVar 2)) (tOp (rEqD K) (tCall (sp_law_looked_for K C) [] E0 (tCons (tVar 0) (tCons (tVar 1) tNil))) (tVar 2))))))
def t_law_most (K : PySem.W.Frag) (C : Cs) (E : XK) : TS :=
  (tSeq (tIfS (tTest (tOp rEq (tOp rMod (tVar 0) (tC (.int 4))) (tC (.int 1)))) (tRet (tC (.int 96))) tNext)
    (tSeq (tIfS (tAnd (tTest (tOp rEq (tOp rMod (tVar 0) (tC (.int 4))) (tC (.int 2)))) (tTest (tOp rEq (tOp rMod (tOp rFdv (tVar 0) (tC (.int 4))) (tC (.int 2))) (tC (.int 1))))) (tRet (tOp (rIxL K) (tLst (tCons (tC (.int 97)) (tCons (tC (.int 49)) (tCons (tC (.int 25)) (tCons (tC (.int 13)) (tCons (tC (.int 7)) (tCons (tC (.int 192)) tNil))))))) (tOp rMod (tOp rFdv (tVar 0) (tC (.int 8))) (tC (.int 6))))) tNext)
    (tSeq (tIfS (tTest (tOp rEq (tOp rMod (tVar 0) (tC (.int 4))) (tC (.int 2)))) (tRet (tOp rMod (tOp rFdv (tVar 0) (tC (.int 8))) (tC (.int 193)))) tNext)
    (tRet (tOp rMod (tOp rFdv (tVar 0) (tC (.int 4))) (tC (.int 13)))))))
def t_law_all (K : PySem.W.Frag) (C : Cs) (E : XK) : TS :=
  (tSeq (tAsg (tOp (rIxL K) (tLst (tCons (tC (.int 65536)) (tCons (tC (.int 0)) (tCons (tC (.int 1)) (tCons (tOp rAdd (tC (.int 1)) (tOp rMod (tOp rFdv (tVar 0) (tC (.int 4))) (tC (.int 100000000000000000000000000000000000000000000000000)))) tNil))))) (tOp rMod (tVar 0) (tC (.int 4)))) (gName 3))
    (tSeq (tAsg (tOp rAdd (tC (.int 1)) (tOp rMod (tOp rFdv (tVar 0) (tC (.int 4))) (tC (.int 8)))) (gName 4))
    (tSeq (tIfS (tTest (tOp rLe (tVar 2) (tC (.int 24)))) (tAsg (tC (.int 25)) (gName 4)) (tIfS (tTest (tOp rEq (tOp rMod (tVar 0) (tC (.int 4))) (tC (.int 3)))) (tAsg (tOp rAdd (tOp rMul (tC (.int 3)) (tC (.int 65536))) (tOp rMul (tC (.int 4294967296)) (tOp rAdd (tC (.int 1)) (tOp rMod (tOp rFdv (tVar 0) (tC (.int 4))) (tC (.int 10000000000000000000000000000000000000000)))))) (gName 3)) tNext))
    (tSeq (tIfS (tTest (tOp rEq (tOp rMod (tVar 0) (tC (.int 4))) (tC (.int 1)))) (tRet (tLc (iRng1 (tCons (tOp rAdd (tVar 2) (tC (.int 1))) tNil)) (gName 5) tYes (tOp rAdd (tOp rAdd (tVar 1) (tOp rMul (tOp rMul (tC (.int 65536)) (tVar 4)) (tOp rFdv (tVar 5) (tVar 4)))) (tOp rMul (tC (.int 4294967296)) (tOp rMod (tVar 5) (tVar 4)))) [5])) tNext)
    (tRet (tLc (iRng1 (tCons (tOp rAdd (tVar 2) (tC (.int 1))) tNil)) (gName 5) tYes (tOp rAdd (tVar 1) (tOp rMul (tVar 5) (tVar 3))) [5]))))))
def t_law_house (K : PySem.W.Frag) (C : Cs) (E : XK) : TS :=
  (tSeq (tIfS (tTest (tOp rEq (tOp rMod (tVar 0) (tC (.int 4))) (tC (.int 1)))) (tRet (tMake C.cHouse (sp_House_init K C) [.int 96] E0 tNil)) tNext)
    (tSeq (tIfS (tTest (tOp rEq (tOp rMod (tVar 0) (tC (.int 4))) (tC (.int 3)))) (tRet (tMakeK C.cHouse 0 (["most"] : List Str).length (sp_House_init K C) (fun vs zs => vs ++ zs) E0 tNil (tCons (tVar 1) tNil))) tNext)
    (tRet (tMake C.cHouse (sp_House_init K C) [] E0 (tCons (tVar 1) tNil)))))
def t_law_b1 (K : PySem.W.Frag) (C : Cs) (E : XK) : TS :=
  (tIfS (tNot (tB (tCall (sp_law_sits K C) [] E0 (tCons (tVar 2) (tCons (tVar 6) tNil))))) (tRet (tC (.bl false))) tNext)
def t_law (K : PySem.W.Frag) (C : Cs) (E : XK) : TS :=
  (tSeq (tAsg (tCall (sp_law_most K C) [] E0 (tCons (tCall (sp_law_cell_at K C) [] E0 (tCons (tVar 0) (tCons (tC (.int 0)) tNil))) tNil)) (gName 1))
    (tSeq (tIfS (tTest (tOp (rNeD K) (tCall (sp_law_made K C) [] E0 (tCons (tCall (sp_law_size K C) [] E0 (tCons (tCall (sp_law_cell_at K C) [] E0 (tCons (tVar 0) (tCons (tC (.int 1)) tNil))) tNil)) tNil)) (tCall (sp_law_only K C) [] E0 (tCons (tC (.int 1)) tNil)))) (tRet (tC (.bl false))) tNext)
    (tSeq (tAsg (tCall (sp_law_house K C) [] E0 (tCons (tCall (sp_law_cell_at K C) [] E0 (tCons (tVar 0) (tCons (tC (.int 0)) tNil))) (tCons (tVar 1) tNil))) (gName 2))
    (tSeq (tAsg (tCall (sp_law_all K C) [] E0 (tCons (tCall (sp_law_cell_at K C) [] E0 (tCons (tVar 0) (tCons (tC (.int 3)) tNil))) (tCons (tOp rMod (tCall (sp_law_cell_at K C) [] E0 (tCons (tVar 0) (tCons (tC (.int 2)) tNil))) (tC (.int 100000000000000000000000000000000000000000000000000000000000))) (tCons (tVar 1) tNil)))) (gName 3))
    (tSeq (tAsg (tCall (sp_law_odd K C) [] E0 (tCons (tCall (sp_law_cell_at K C) [] E0 (tCons (tVar 0) (tCons (tC (.int 4)) tNil))) tNil)) (gName 4))
    (tSeq (tAsg (tBM0 K "list" rPop (tVar 3)) (gName 5))
    (tSeq (tFor (iList K (tVar 3)) (gName 6) (t_law_b1 K C E))
    (tSeq (tAsg (tMeth C.cHouse "row" (sp_House_row K C) [] E0 (tVar 2) tNil) (gName 7))
    (tSeq (tIfS (tNot (tB (tCall (sp_law_settled K C) [] E0 (tCons (tVar 7) (tCons (tVar 3) tNil))))) (tRet (tC (.bl false))) tNext)
    (tSeq (tAsg (tLst (tCons (tOp (rEqD K) (tCall (sp_law_goes K C) [] E0 (tCons (tVar 2) (tCons (tVar 5) tNil))) (tCall (sp_law_only K C) [] E0 (tCons (tC (.int 3)) tNil))) (tCons (tOp (rEqD K) (tCall (sp_law_comes K C) [] E0 (tCons (tVar 2) (tCons (tVar 5) tNil))) (tCall (sp_law_only K C) [] E0 (tCons (tC (.int 4)) tNil))) tNil))) (gName 8))
    (tSeq (tIfS (tOr (tTest (tOp (rIn K false) (tC (.bl false)) (tVar 8))) (tNot (tB (tCall (sp_law_no_guest K C) [] E0 (tCons (tVar 2) (tCons (tVar 4) tNil)))))) (tRet (tC (.bl false))) tNext)
    (tSeq (tIfS (tOr (tTest (tOp (rNeD K) (tMeth C.cHouse "row" (sp_House_row K C) [] E0 (tVar 2) tNil) (tVar 7))) (tOr (tB (tNotN (tMeth C.cHouse "seat_of" (sp_House_seat_of K C) [] E0 (tVar 2) (tCons (tVar 5) tNil)))) (tNot (tB (tCall (sp_law_there K C) [] E0 (tCons (tVar 2) (tCons (tVar 3) tNil))))))) (tRet (tC (.bl false))) tNext)
    (tSeq (tIfS (tTest (tOp rEq (tVar 1) (tC (.int 0)))) (tRet (tC (.bl true))) tNext)
    (tSeq (tAsg (tOp (rIxL K) (tVar 3) (tOp rMod (tCall (sp_law_cell_at K C) [] E0 (tCons (tVar 0) (tCons (tC (.int 5)) tNil))) (tVar 1))) (gName 9))
    (tSeq (tIfS (tOr (tTest (tOp (rNeD K) (tCall (sp_law_comes K C) [] E0 (tCons (tVar 2) (tCons (tVar 9) tNil))) (tCall (sp_law_only K C) [] E0 (tCons (tC (.int 2)) tNil)))) (tTest (tOp (rNeD K) (tMeth C.cHouse "row" (sp_House_row K C) [] E0 (tVar 2) tNil) (tVar 7)))) (tRet (tC (.bl false))) tNext)
    (tSeq (tAsg (tLc (iList K (tVar 3)) (gName 6) (tTest (tOp rNe (tVar 6) (tVar 9))) (tVar 6) [6]) (gName 10))
    (tSeq (tIfS (tOr (tTest (tOp rNe (tMeth C.cHouse "go" (sp_House_go K C) [] E0 (tVar 2) (tCons (tVar 9) tNil)) (tBM K "list" (rIndex K) (tVar 7) (tCons (tVar 9) tNil)))) (tTest (tOp (rNeD K) (tCall (sp_law_goes K C) [] E0 (tCons (tVar 2) (tCons (tVar 9) tNil))) (tCall (sp_law_only K C) [] E0 (tCons (tC (.int 3)) tNil))))) (tRet (tC (.bl false))) tNext)
    (tSeq (tIfS (tOr (tNot (tB (tCall (sp_law_settled K C) [] E0 (tCons (tMeth C.cHouse "row" (sp_House_row K C) [] E0 (tVar 2) tNil) (tCons (tVar 10) tNil))))) (tOr (tNot (tB (tCall (sp_law_sits K C) [] E0 (tCons (tVar 2) (tCons (tVar 5) tNil))))) (tTest (tOp (rNeD K) (tCall (sp_law_comes K C) [] E0 (tCons (tVar 2) (tCons (tVar 9) tNil))) (tCall (sp_law_only K C) [] E0 (tCons (tC (.int 4)) tNil)))))) (tRet (tC (.bl false))) tNext)
    (tSeq (tIfS (tNot (tB (tCall (sp_law_there K C) [] E0 (tCons (tVar 2) (tCons (tOp rCat (tVar 10) (tLst (tCons (tVar 5) tNil))) tNil))))) (tRet (tC (.bl false))) tNext)
    (tRet (tAndV (tOp (rEqD K) (tCall (sp_law_goes K C) [] E0 (tCons (tVar 2) (tCons (tVar 5) tNil))) (tLst tNil)) (tCall (sp_law_there K C) [] E0 (tCons (tVar 2) (tCons (tVar 10) tNil))))))))))))))))))))))))
end RS
namespace RS
open PySem PySem.Spec PyProof.Rows L2
section
variable {K : PySem.W.Frag} {C : Cs} {vs : List V} {H : Hp} {Q : VK} {E : XK}
theorem len_is_guest (h : sp_is_guest K C vs H Q E) : vs.length = (["thing"] : List Str).length := by
  unfold sp_is_guest at h
  repeat (obtain ⟨_, h⟩ := h)
  subst_vars; rfl
theorem pure_is_guest (XF : Facts K C) (XH : HF K C.cHouse) (h : sp_is_guest K C vs H Q E) : t_is_guest K C E { nx := fun _ H' => Q .non H', rt := Q } (start ["thing"] vs) H := by
  obtain ⟨x, s, rfl, ht, q⟩ := h
  have big : ∀ i : Int, isG (.int i) = (decide (0 ≤ i) && decide (i < 1000000000000000000000000000000000000000000000000000000000000)) := fun _ => rfl
  by_cases hx : ∃ i, x = .int i
  · obtain ⟨i, rfl⟩ := hx
    show tSeq _ _ _ [some (.int i)] H
    rw [big] at q
    walk_at "run"
    by_cases h0 : 0 ≤ i
    · rw [if_pos h0]
      rw [decide_eq_true h0, Bool.true_and] at q
      exact q
    · rw [if_neg h0]
      rw [decide_eq_false h0, Bool.false_and] at q
      exact q
  · have e : isG x = false := by
      cases x with
      | int i => exact absurd ⟨i, rfl⟩ hx
      | _ => rfl
    rw [e] at q
    have hs : ∀ b, (Ty.isA s .int = b) → (b = false ∨ Ty.isA s .bool = true) := by
      intro b hb
      cases x with
      | int i => exact absurd ⟨i, rfl⟩ hx
      | bl b => cases ht; exact .inr rfl
      | non => cases ht; exact .inl hb.symm
      | str z => cases ht; exact .inl hb.symm
      | byt b => cases ht
      | flt b => cases ht
      | ty n => cases ht
      | ref a =>
        have h' : (H a).bind hoTy = some s := ht
        cases e : H a with
        | none => rw [e] at h'; cases h'
        | some o =>
          rw [e] at h'
          have h2 : hoTy o = some s := h'
          cases o with
          | lst xs => cases h2; exact .inl hb.symm
          | tup xs => cases h2; exact .inl hb.symm
          | dK kvs => cases h2; exact .inl hb.symm
          | frz ob u =>
            cases u with
            | lst xs => cases h2; exact .inl hb.symm
            | _ => cases h2
          | _ => cases h2
    show tSeq _ _ _ [some x] H
    refine if_step (b := true) (H' := H) (fun R h => ?_) (fun _ => ?_) (fun e => nomatch e)
    · simp only [tOr, tNot, tB, tCB, tCons, tNil, tVar, tC, rIsA]
      refine ⟨x, rfl, x, s, rfl, ht, s.isA .int, rfl, ?_⟩
      refine iteB (fun _ => h) fun e1 => ?_
      refine ⟨x, rfl, x, s, rfl, ht, s.isA .bool, rfl, ?_⟩
      rcases hs _ rfl with e2 | e2
      · rw [e2] at e1; cases e1
      · rw [e2]; exact h
    · exact q
theorem len_home (h : sp_home K C vs H Q E) : vs.length = (["guest", "many"] : List Str).length := by
  unfold sp_home at h
  repeat (obtain ⟨_, h⟩ := h)
  subst_vars; rfl
theorem pure_home (XF : Facts K C) (XH : HF K C.cHouse) (h : sp_home K C vs H Q E) : t_home K C E { nx := fun _ H' => Q .non H', rt := Q } (start ["guest", "many"] vs) H := by
  obtain ⟨g, n, rfl, h0, q⟩ := h
  show tRet _ _ [some (.int g), some (.int n)] H
  walk_at "run"
  exact ⟨h0, q⟩
theorem len_carried (h : sp_carried K C vs H Q E) : vs.length = (["guest", "at", "many"] : List Str).length := by
  unfold sp_carried at h
  repeat (obtain ⟨_, h⟩ := h)
  subst_vars; rfl
theorem pure_carried (XF : Facts K C) (XH : HF K C.cHouse) (h : sp_carried K C vs H Q E) : t_carried K C E { nx := fun _ H' => Q .non H', rt := Q } (start ["guest", "at", "many"] vs) H := by
  obtain ⟨g, p, n, rfl, h0, q⟩ := h
  show tRet _ _ [some (.int g), some (.int p), some (.int n)] H
  walk_at "run"; unfold sp_home; walk_at "run"
  exact ⟨h0, h0, q⟩
theorem len_ahead (h : sp_ahead K C vs H Q E) : vs.length = (["one", "other", "at", "many"] : List Str).length := by
  unfold sp_ahead at h
  repeat (obtain ⟨_, h⟩ := h)
  subst_vars; rfl
theorem pure_ahead (XF : Facts K C) (XH : HF K C.cHouse) (h : sp_ahead K C vs H Q E) : t_ahead K C E { nx := fun _ H' => Q .non H', rt := Q } (start ["one", "other", "at", "many", "here", "there"] vs) H := by
  obtain ⟨a, b, p, n, rfl, h0, q⟩ := h
  show tSeq _ _ _ [some (.int a), some (.int b), some (.int p), some (.int n), none, none] H
  walk_at "run"; unfold sp_carried; walk_at "run"
  refine ⟨h0, h0, ?_⟩
  by_cases e : farI a p n = farI b p n
  · rw [if_neg (not_not_intro e)]
    rw [show decide (a < b) = aheadI a b p n from decide_eq_decide.mpr ⟨fun h => .inr ⟨e, h⟩, fun h => by omega⟩]
    exact q
  · rw [if_pos e]
    rw [show decide (farI a p n > farI b p n) = aheadI a b p n from decide_eq_decide.mpr ⟨fun h => .inl h, fun h => by omega⟩]
    exact q
theorem len_room (h : sp_room K C vs H Q E) : vs.length = (["count"] : List Str).length := by
  unfold sp_room at h
  repeat (obtain ⟨_, h⟩ := h)
  subst_vars; rfl
theorem pure_room (XF : Facts K C) (XH : HF K C.cHouse) (h : sp_room K C vs H Q E) : t_room K C E { nx := fun _ H' => Q .non H', rt := Q } (start ["count", "size"] vs) H := by
  obtain ⟨n, rfl, h0, h1, q⟩ := h
  show tSeq _ _ _ [some (.int n), none] H
  walk_at "run"
  refine ⟨fun m σ H' => H' = H ∧ ∃ s : Int, σ = [some (.int n), some (.int s)] ∧ (s = 8 ∨ s = 16 ∨ s = 32 ∨ s = 64 ∨ s = 128 ∨ s = 256) ∧ (s = 8 ∨ 4 * n > 3 * (s / 2)) ∧ m = (256 - s).toNat, ⟨_, rfl, 8, rfl, .inl rfl, .inl rfl, rfl⟩, ?_⟩
  rintro m σ H' ⟨rfl, s, rfl, hs, hb, rfl⟩
  unfold t_room_b1; walk_at "run"
  split
  · refine ⟨_, fun _ _ h => h, _, ?_, rfl, 2 * s, rfl, by omega, by omega, rfl⟩
    omega
  · have e : roomI n = s := by unfold roomI; repeat (split <;> try omega)
    rw [← e]; exact q
theorem len_look_for (h : sp_look_for K C vs H Q E) : vs.length = (["seats", "guest"] : List Str).length := by
  unfold sp_look_for at h
  repeat (obtain ⟨_, h⟩ := h)
  subst_vars; rfl
theorem pure_look_for (XF : Facts K C) (XH : HF K C.cHouse) (h : sp_look_for K C vs H Q E) : t_look_for K C E { nx := fun _ H' => Q .non H', rt := Q } (start ["seats", "guest", "many", "at", "looked"] vs) H := by
  obtain ⟨a, n, f, x, s, rfl, hS, h1, hn, ⟨e, he, h0⟩, ht, qN, qY⟩ := h
  have hn0 : 0 < n := by omega
  have hh := hm_lt hn0
  show tSeq _ _ _ [some (.ref a), some x, none, none, none] H
  refine if_step (b := !isG x) (H' := H) (fun R h => ?_) (fun e1 => ?_) (fun e1 => ?_)
  · walk_at "run"; unfold sp_is_guest
    exact ⟨x, s, rfl, ht, ⟨_, rfl, h⟩⟩
  · exact qN (by simpa using e1)
  have hG : isG x = true := by simpa using e1
  obtain ⟨g, rfl⟩ := isG_int hG
  walk_at "nxt"
  refine asg_step (v := .int n) (H' := H) (fun R h => ?_) ?_
  · walk_at "run"; exact ⟨_, .inl hS, by rw [row_len]; exact h⟩
  walk_at "nxt"
  refine asg_step (v := .int (hm n g)) (H' := H) (fun R h => ?_) ?_
  · walk_at "run"; unfold sp_home; walk_at "run"; exact ⟨by omega, by rw [hm_is hn0]; exact h⟩
  walk_at "nxt"
  refine asg_step (v := .int 1) (H' := H) (fun R h => h) ?_
  walk_at "nxt"
  refine while_step (fun m σ H' => H' = H ∧ ∃ p : Nat, σ = [some (.ref a), some (.int g), some (.int n), some (.int p), some (.int ((Ring.far n (hm n g) p + 1 : Nat) : Int))] ∧ p < n ∧ Ring.Car n (hm n) f g p ∧ m = Ring.far n p e) ⟨_, rfl, hm n g, by rw [Ring.far_self]; rfl, hh g, Ring.car_home, rfl⟩ ?_
  rintro m σ H' ⟨rfl, p, rfl, hp, c, rfl⟩
  have fin : (∀ y, f p = some y → ¬ Ring.Ah n (hm n) y g p) → tRet (tTup (tCons (tVar 3) (tCons (tVar 4) tNil))) { nx := fun _ H' => Q .non H', rt := Q } [some (.ref a), some (.int g), some (.int n), some (.int p), some (.int ((Ring.far n (hm n g) p + 1 : Nat) : Int))] H' := fun l => by
    walk_at "run"
    exact ⟨sizes (by decide), fun t ht => qY g rfl hG _ _ p (same_new ht) hp ⟨c, l⟩ upd_same⟩
  cases hy : f p with
  | none =>
    refine ⟨false, fun R h => ?_, (fun z => nomatch z), fun _ => fin fun y h => by rw [hy] at h; cases h⟩
    walk_at "run"; exact ⟨_, hS, _, row_at hp, by rw [hy]; exact h⟩
  | some y =>
    have hpe : p ≠ e := fun z => by rw [z, h0] at hy; cases hy
    by_cases A : Ring.Ah n (hm n) y g p
    · refine ⟨true, fun R h => ?_, fun _ => ?_, (fun z => nomatch z)⟩
      · walk_at "run"; refine ⟨_, hS, _, row_at hp, ?_⟩
        rw [hy]; walk_at "run"; refine ⟨_, hS, _, row_at hp, ?_⟩
        rw [hy]; unfold sp_ahead; walk_at "run"
        rw [ahead_is hp, decide_eq_true A]; exact ⟨by omega, h⟩
      unfold t_look_for_b1
      refine asg_step (v := .int (Ring.nx n p)) (H' := H') (fun R h => ?_) ?_
      · walk_at "run"; exact ⟨by omega, by rw [nx_is hp]; exact h⟩
      walk_at "nxt"
      have hx := Ring.far_nx (hh g) hp (Ring.no_wrap hh hp he h0 c (by rw [hy]; simp))
      refine asg_step (v := .int ((Ring.far n (hm n g) (Ring.nx n p) + 1 : Nat) : Int)) (H' := H') (fun R h => ?_) ?_
      · walk_at "run"; rw [hx] at h; push_cast at h ⊢; exact h
      have ft := Ring.far_to hp he hpe
      exact ⟨_, by omega, rfl, _, rfl, Ring.nx_lt hp, Ring.car_nx hh hp c hy A, rfl⟩
    · refine ⟨false, fun R h => ?_, (fun z => nomatch z), fun _ => fin fun y' h => by rw [hy] at h; cases h; exact A⟩
      walk_at "run"; refine ⟨_, hS, _, row_at hp, ?_⟩
      rw [hy]; walk_at "run"; refine ⟨_, hS, _, row_at hp, ?_⟩
      rw [hy]; unfold sp_ahead; walk_at "run"
      rw [ahead_is hp, decide_eq_false A]; exact ⟨by omega, h⟩
theorem len_place_of (h : sp_place_of K C vs H Q E) : vs.length = (["seats", "guest"] : List Str).length := by
  unfold sp_place_of at h
  repeat (obtain ⟨_, h⟩ := h)
  subst_vars; rfl
theorem pure_place_of (XF : Facts K C) (XH : HF K C.cHouse) (h : sp_place_of K C vs H Q E) : t_place_of K C E { nx := fun _ H' => Q .non H', rt := Q } (start ["seats", "guest", "at"] vs) H := by
  obtain ⟨a, n, f, x, s, rfl, hS, h1, hn, he, ht, qN, qY⟩ := h
  show tSeq _ _ _ [some (.ref a), some x, none] H
  by_cases hG : isG x = true
  · obtain ⟨g, rfl⟩ := isG_int hG
    refine asg_any (fun v H' => Same H H' ∧ ∃ p : Nat, v = .int p ∧ p < n ∧ Ring.Loc n (hm n) f g p) (fun R h => ?_) ?_
    · walk_at "run"; unfold sp_look_for
      refine ⟨a, n, f, _, s, rfl, hS, h1, hn, he, ht, fun z => ?_, fun g' e _ H' t p sm hp l e2 => ?_⟩
      · rw [hG] at z; cases z
      · cases e
        exact ⟨_, rfl, _, .inl (.inl e2), _, rfl, h _ _ ⟨sm, p, rfl, hp, l⟩⟩
    rintro v H' ⟨sm, p, rfl, hp, l⟩
    have q := qY g rfl hG H' p sm hp l
    walk_at "nxt"
    refine if_step (b := decide (f p = some g)) (H' := H') (fun R h => ?_) (fun e => ?_) (fun e => ?_)
    · walk_at "run"; refine ⟨_, sm.seq hS, _, row_at hp, ?_⟩
      cases hy : f p with
      | none => rw [hy] at h; walk_at "run"; simpa using h
      | some y => rw [hy] at h; walk_at "run"; simpa using h
    · rw [if_pos (of_decide_eq_true e)] at q
      walk_at "run"; exact q
    · rw [if_neg (of_decide_eq_false e)] at q
      walk_at "run"; exact q
  · refine asg_any (fun _ _ => False) (fun R h => ?_) fun _ _ z => z.elim
    walk_at "run"; unfold sp_look_for
    exact ⟨a, n, f, x, s, rfl, hS, h1, hn, he, ht, fun z => qN z, fun g' e z => absurd z hG⟩
theorem len_take_seat (h : sp_take_seat K C vs H Q E) : vs.length = (["seats", "guest"] : List Str).length := by
  unfold sp_take_seat at h
  repeat (obtain ⟨_, h⟩ := h)
  subst_vars; rfl
theorem pure_take_seat (XF : Facts K C) (XH : HF K C.cHouse) (h : sp_take_seat K C vs H Q E) : t_take_seat K C E { nx := fun _ H' => Q .non H', rt := Q } (start ["seats", "guest", "at", "found", "other"] vs) H := by
  obtain ⟨a, n, f, g, rfl, hS, h2, hn, P, ⟨e, he, h0⟩, ng, hG, q⟩ := h
  have hn0 : 0 < n := by omega
  have hh := hm_lt hn0
  show tSeq _ _ _ [some (.ref a), some (.int g), none, none, none] H
  refine asg_any (fun v H' => Same H H' ∧ ∃ p : Nat, v = .int p ∧ p < n ∧ Ring.Loc n (hm n) f g p) (fun R h => ?_) ?_
  · walk_at "run"; unfold sp_look_for
    refine ⟨a, n, f, _, .int, rfl, .inl (.inl hS), by omega, hn, ⟨e, he, h0⟩, rfl, (fun z => by rw [hG] at z; cases z), fun g' e1 _ H' t p sm hp l e2 => ?_⟩
    cases e1
    exact ⟨_, rfl, _, .inl (.inl e2), _, rfl, h _ _ ⟨sm, p, rfl, hp, l⟩⟩
  rintro v H1 ⟨s1, p0, rfl, hp0, l0⟩
  have hS1 := s1 _ _ hS
  walk_at "nxt"
  refine asg_step (v := .int p0) (H' := H1) (fun R h => ⟨_, rfl, h⟩) ?_
  walk_at "nxt"
  refine while_step (fun m σ H' => ∃ (f' : Nat → Option Int) (g' : Option Int) (p : Nat) (x : Option V), H' = upd H1 a (.lst (row n f')) ∧ σ = [some (.ref a), some (ov g'), some (.int p), some (.int p0), x] ∧ Ring.Path n (hm n) f' ∧
      ((g' = none ∧ m = 0 ∧ f' p0 = some g ∧ ∀ x, Ring.Sits n f' x ↔ Ring.Sits n f x ∨ x = g) ∨
        ∃ g1, g' = some g1 ∧ m = Ring.far n p e + 1 ∧ p < n ∧ Ring.Car n (hm n) f' g1 p ∧ f' e = none ∧ ¬ Ring.Sits n f' g1 ∧ (∀ y, f' p = some y → Ring.Ah n (hm n) g1 y p) ∧ (∀ x, (Ring.Sits n f' x ∨ x = g1) ↔ (Ring.Sits n f x ∨ x = g)) ∧
          ((p = p0 ∧ g1 = g) ∨ (f' p0 = some g ∧ Ring.far n p e < Ring.far n p0 e))))
    ⟨_, f, some g, p0, none, (upd_id hS1).symm, rfl, P, .inr ⟨g, rfl, rfl, hp0, l0.1, h0, ng, fun y hy => Ring.ah_tot (l0.2 y hy) (fun z => ng (z ▸ ⟨p0, hp0, hy⟩)), fun _ => Iff.rfl, .inl ⟨rfl, rfl⟩⟩⟩ ?_
  rintro m σ H' ⟨f', g', p, x, rfl, rfl, P', hc⟩
  have hS' : SqL K (upd H1 a (.lst (row n f'))) a (row n f') := .inl (.inl upd_same)
  rcases hc with ⟨rfl, rfl, hp, st⟩ | ⟨g1, rfl, rfl, hp, c, h0', ng', ah, st, tr⟩
  · refine ⟨false, fun R h => ?_, (fun z => nomatch z), fun _ => ?_⟩
    · walk_at "run"; exact h
    · walk_at "run"
      exact q _ f' p0 ((Off.same s1).trans Off.upd) upd_same P' st hp0 hp
  refine ⟨true, fun R h => ?_, fun _ => ?_, (fun z => nomatch z)⟩
  · walk_at "run"; exact h
  unfold t_take_seat_b1
  refine asg_step (v := ov (f' p)) (H' := upd H1 a (.lst (row n f'))) (fun R h => ?_) ?_
  · walk_at "run"; exact ⟨_, hS', _, row_at hp, h⟩
  walk_at "nxt"
  refine set_step (v := ov (some g1)) (H' := upd H1 a (.lst (row n f'))) (fun R h => ⟨_, rfl, h⟩) (fun R h => ⟨_, rfl, h⟩) (fun R h => ⟨_, rfl, h⟩) upd_same (row_ix hp) ?_
  rw [upd_upd, row_set]
  walk_at "nxt"
  refine asg_step (v := ov (f' p)) (H' := upd H1 a (.lst (row n (Ring.fup f' p (some g1))))) (fun R h => ⟨_, rfl, h⟩) ?_
  walk_at "nxt"
  refine asg_step (v := .int (Ring.nx n p)) (H' := upd H1 a (.lst (row n (Ring.fup f' p (some g1))))) (fun R h => ?_) ?_
  · walk_at "run"
    refine ⟨_, .inl (.inl (.inl upd_same)), ?_⟩
    rw [row_len]; exact ⟨by omega, by rw [nx_is hp]; exact h⟩
  have keep : Ring.fup f' p (some g1) p0 = some g := by
    rcases tr with ⟨e1, e2⟩ | ⟨e1, e2⟩
    · rw [e1, e2]; exact Ring.fup_same
    · have : p0 ≠ p := fun z => by rw [z] at e2; omega
      rw [Ring.fup_ne this]; exact e1
  cases hy : f' p with
  | none => exact ⟨0, by omega, _, none, _, _, rfl, rfl, Ring.step_put P' c hy, .inl ⟨rfl, rfl, keep, fun x => (Ring.sits_put hp hy x).trans (st x)⟩⟩
  | some y =>
    have hpe : p ≠ e := fun z => by rw [z, h0'] at hy; cases hy
    have ft := Ring.far_to hp he hpe
    obtain ⟨P2, c2⟩ := Ring.step_swap hh hp P' c hy (ah y hy)
    refine ⟨_, by omega, _, some y, _, _, rfl, rfl, P2, .inr ⟨y, rfl, rfl, Ring.nx_lt hp, c2, by rw [Ring.fup_ne (fun z => hpe z.symm)]; exact h0', Ring.swap_out hh P' hp hy ng', fun z hz => ?_, fun x => (Ring.sits_swap hp hy x).trans (st x), .inr ⟨keep, ?_⟩⟩⟩
    · rw [Ring.fup_ne (Ring.nx_ne h2 hp)] at hz
      exact Ring.push_next h2 hh hp he h0' P' hy hz
    · rcases tr with ⟨e1, e2⟩ | ⟨e1, e2⟩
      · rw [← e1]; omega
      · omega
theorem len_leave_seat (h : sp_leave_seat K C vs H Q E) : vs.length = (["seats", "at"] : List Str).length := by
  unfold sp_leave_seat at h
  repeat (obtain ⟨_, h⟩ := h)
  subst_vars; rfl
theorem pure_leave_seat (XF : Facts K C) (XH : HF K C.cHouse) (h : sp_leave_seat K C vs H Q E) : t_leave_seat K C E { nx := fun _ H' => Q .non H', rt := Q } (start ["seats", "at", "many", "behind"] vs) H := by
  obtain ⟨a, n, f, p, g, rfl, hS, h2, hn, P, ⟨e, he, h0⟩, hp, hf, q⟩ := h
  have hn0 : 0 < n := by omega
  have hh := hm_lt hn0
  show tSeq _ _ _ [some (.ref a), some (.int p), none, none] H
  refine asg_step (v := .int n) (H' := H) (fun R h => ?_) ?_
  · walk_at "run"; exact ⟨_, .inl (.inl (.inl hS)), by rw [row_len]; exact h⟩
  walk_at "nxt"
  refine asg_step (v := .int (Ring.nx n p)) (H' := H) (fun R h => ?_) ?_
  · walk_at "run"; exact ⟨by omega, by rw [nx_is hp]; exact h⟩
  walk_at "nxt"
  refine while_step (fun m σ H' => ∃ (f' : Nat → Option Int) (o : Nat) (w : Int), H' = upd H a (.lst (row n f')) ∧ σ = [some (.ref a), some (.int o), some (.int n), some (.int (Ring.nx n o))] ∧ o < n ∧ Ring.PathX n (hm n) f' o ∧ f' o = some w ∧ f' e = none ∧ (∀ x, Ring.SitsX n f' o x ↔ Ring.Sits n f x ∧ x ≠ g) ∧ m = Ring.far n o e)
    ⟨_, f, p, g, (upd_id hS).symm, rfl, hp, Ring.pathX_of P p, hf, h0, Ring.sitsX_of hh P hp hf, rfl⟩ ?_
  rintro m σ H' ⟨f', o, w, rfl, rfl, ho, PX, hw, h0', st, rfl⟩
  have hS' : SqL K (upd H a (.lst (row n f'))) a (row n f') := .inl (.inl upd_same)
  have hx := Ring.nx_lt ho
  have hoe : o ≠ e := fun z => by rw [z, h0'] at hw; cases hw
  have fin : (∀ y, f' (Ring.nx n o) = some y → hm n y = Ring.nx n o) → tAsg (tC .non) (gSub (tVar 0) (tVar 1) rSetL) { nx := fun _ H' => Q .non H', rt := Q } [some (.ref a), some (.int o), some (.int n), some (.int (Ring.nx n o))] (upd H a (.lst (row n f'))) := fun l => by
    refine set_step (v := ov none) (H' := upd H a (.lst (row n f'))) (fun R h => h) (fun R h => ⟨_, rfl, h⟩) (fun R h => ⟨_, rfl, h⟩) upd_same (row_ix ho) ?_
    rw [upd_upd, row_set]
    exact q _ (Ring.out_end h2 hh ho PX l) fun x => (Ring.outEnd_sits x).trans (st x)
  cases hy : f' (Ring.nx n o) with
  | none =>
    refine ⟨false, fun R h => ?_, (fun z => nomatch z), fun _ => fin fun y z => by rw [hy] at z; cases z⟩
    walk_at "run"; exact ⟨_, hS', _, row_at hx, by rw [hy]; exact h⟩
  | some y =>
    by_cases hm0 : hm n y = Ring.nx n o
    · refine ⟨false, fun R h => ?_, (fun z => nomatch z), fun _ => fin fun y' z => by rw [hy] at z; cases z; exact hm0⟩
      walk_at "run"; refine ⟨_, hS', _, row_at hx, ?_⟩
      rw [hy]; walk_at "run"; refine ⟨_, hS', _, row_at hx, ?_⟩
      rw [hy]; unfold sp_carried; walk_at "run"
      refine ⟨by omega, ?_⟩
      rw [far_is hx, hm0, Ring.far_self]; exact h
    · refine ⟨true, fun R h => ?_, fun _ => ?_, (fun z => nomatch z)⟩
      · walk_at "run"; refine ⟨_, hS', _, row_at hx, ?_⟩
        rw [hy]; walk_at "run"; refine ⟨_, hS', _, row_at hx, ?_⟩
        rw [hy]; unfold sp_carried; walk_at "run"
        refine ⟨by omega, ?_⟩
        have : Ring.far n (hm n y) (Ring.nx n o) ≠ 0 := fun z => hm0 (Ring.far_zero (hh y) z).symm
        rw [far_is hx, decide_eq_true (by omega)]; exact h
      unfold t_leave_seat_b1
      refine set_step (v := ov (some y)) (H' := upd H a (.lst (row n f'))) (fun R h => ?_) (fun R h => ⟨_, rfl, h⟩) (fun R h => ⟨_, rfl, h⟩) upd_same (row_ix ho) ?_
      · walk_at "run"; exact ⟨_, hS', _, row_at hx, by rw [hy]; exact h⟩
      rw [upd_upd, row_set]
      walk_at "nxt"
      refine asg_step (v := .int (Ring.nx n o)) (H' := upd H a (.lst (row n (Ring.fup f' o (some y))))) (fun R h => ⟨_, rfl, h⟩) ?_
      walk_at "nxt"
      refine asg_step (v := .int (Ring.nx n (Ring.nx n o))) (H' := upd H a (.lst (row n (Ring.fup f' o (some y))))) (fun R h => ?_) ?_
      · walk_at "run"; exact ⟨by omega, by rw [nx_is hx]; exact h⟩
      have ft := Ring.far_to ho he hoe
      exact ⟨_, by omega, _, _, y, rfl, rfl, hx, Ring.out_step h2 hh ho PX hw hy hm0, by rw [Ring.fup_ne (Ring.nx_ne h2 ho)]; exact hy, by rw [Ring.fup_ne (fun z => hoe z.symm)]; exact h0', fun x => (Ring.out_sits h2 ho hy x).trans (st x), rfl⟩
theorem len_looked_through (h : sp_looked_through K C vs H Q E) : vs.length = (["guests", "many"] : List Str).length := by
  unfold sp_looked_through at h
  repeat (obtain ⟨_, h⟩ := h)
  subst_vars; rfl
theorem pure_looked_through (XF : Facts K C) (XH : HF K C.cHouse) (h : sp_looked_through K C vs H Q E) : t_looked_through K C E { nx := fun _ H' => Q .non H', rt := Q } (start ["guests", "many", "guest"] vs) H := by
  obtain ⟨a, xs, n, rfl, hS, hl, hty, qN, qY⟩ := h
  show tSeq _ _ _ [some (.ref a), some (.int n), none] H
  refine for_lst (a := a) (xs := xs) (H' := H) (fun R h => ⟨_, rfl, h⟩) hS (fun k σ H' => H' = H ∧ (∃ x, σ = [some (.ref a), some (.int n), x]) ∧ ∀ j, j < k → ∀ x, xs[j]? = some x → isG x = true) ⟨rfl, ⟨_, rfl⟩, fun j hj => by omega⟩ (fun k σ H' _ h => h.1 ▸ hS) ?_ ?_
  · rintro k x σ H' hk ⟨rfl, ⟨y, rfl⟩, ih⟩
    have hm := List.mem_of_getElem? hk
    obtain ⟨s, hs⟩ := hty x hm
    unfold t_looked_through_b1
    unfold gName
    walk_at "nxt"
    refine if_step (b := !isG x) (H' := H') (fun R h => ?_) (fun e => ?_) (fun e => ?_)
    · walk_at "run"; unfold sp_is_guest; exact ⟨x, s, rfl, hs, _, rfl, h⟩
    · exact qN ⟨x, hm, by simpa using e⟩
    · refine ⟨rfl, ⟨_, rfl⟩, fun j hj z hz => ?_⟩
      by_cases w : j = k
      · rw [w, hk] at hz; cases hz; simpa using e
      · exact ih j (by omega) z hz
  rintro σ H' ⟨rfl, ⟨y, rfl⟩, all⟩
  obtain ⟨gs, rfl, hg⟩ := all_ints fun x hx => by
    obtain ⟨j, hj⟩ := List.mem_iff_getElem?.mp hx
    exact all j (List.getElem?_eq_some_iff.mp hj).1 x hj
  obtain ⟨q1, q2, q3⟩ := qY gs rfl hg
  rw [List.length_map] at hl
  walk_at "nxt"
  refine if_step (b := decide ((dist gs).length < gs.length)) (H' := H') (fun R h => ?_) (fun e => ?_) (fun e => ?_)
  · unfold tLenSet; walk_at "run"
    refine ⟨gs, hS, by omega, ?_⟩
    refine ⟨_, .inl hS, ?_⟩
    rw [List.length_map]
    rw [show decide (((dist gs).length : Int) < (gs.length : Int)) = decide ((dist gs).length < gs.length) from decide_eq_decide.mpr (by omega)]; exact h
  · refine q1 fun nd => ?_
    have := of_decide_eq_true e
    rw [dist_nodup nd] at this; omega
  have nd : gs.Nodup := Classical.byContradiction fun z => by have := dist_short z; have := of_decide_eq_false e; omega
  walk_at "nxt"
  refine if_step (b := decide (n ≤ gs.length)) (H' := H') (fun R h => ?_) (fun e => q2 nd (of_decide_eq_true e)) (fun e => q3 nd (by have := of_decide_eq_false e; omega))
  walk_at "run"; refine ⟨_, .inl hS, ?_⟩
  rw [List.length_map, show decide ((gs.length : Int) ≥ (n : Int)) = decide (n ≤ gs.length) from decide_eq_decide.mpr (by omega)]; exact h
theorem len_seated (h : sp_seated K C vs H Q E) : vs.length = (["guests", "many"] : List Str).length := by
  unfold sp_seated at h
  repeat (obtain ⟨_, h⟩ := h)
  subst_vars; rfl
theorem pure_seated (XF : Facts K C) (XH : HF K C.cHouse) (h : sp_seated K C vs H Q E) : t_seated K C E { nx := fun _ H' => Q .non H', rt := Q } (start ["guests", "many", "seats", "guest"] vs) H := by
  obtain ⟨a, xs, n, rfl, hS, hl, n2, n3, hty, qN, qY⟩ := h
  show tSeq _ _ _ [some (.ref a), some (.int n), none, none] H
  refine drop_any (fun v H' => H' = H ∧ ∃ gs : List Int, xs = gs.map V.int ∧ (∀ g ∈ gs, isG (.int g) = true) ∧ gs.Nodup ∧ gs.length < n) (fun R h => ?_) ?_
  · walk_at "run"; unfold sp_looked_through
    exact ⟨a, xs, n, rfl, hS, hl, hty, qN, fun gs e hg => ⟨(qY gs e hg).1, (qY gs e hg).2.1, fun nd lt => h _ _ ⟨rfl, gs, e, hg, nd, lt⟩⟩⟩
  rintro _ H1 ⟨rfl, gs, rfl, hg, nd, lt⟩
  have q := (qY gs rfl hg).2.2 nd lt
  walk_at "nxt"
  refine asg_any (fun v H' => Same H1 H' ∧ ∃ s, v = .ref s ∧ H' s = some (.lst (row n fun _ => none)) ∧ H1 s = none) (fun R h => ?_) ?_
  · walk_at "run"
    refine ⟨sizes (by decide), fun p1 h1 => ⟨_, upd_same, by omega, by omega, ?_, fun p2 hp2 => ?_⟩⟩
    · have := sizes (n := n) (by omega); simpa using this
    rw [Int.toNat_natCast, row_none]
    exact h _ _ ⟨(same_new h1).trans (same_new hp2), p2, rfl, upd_same, (same_new h1).free hp2⟩
  rintro _ H2 ⟨s2, s, rfl, hs2, f1⟩
  walk_at "nxt"
  refine for_lst (a := a) (xs := gs.map V.int) (H' := H2) (fun R h => ⟨_, rfl, h⟩) (s2.seq hS)
    (fun j σ H' => ∃ (f : Nat → Option Int) (x : Option V), σ = [some (.ref a), some (.int n), some (.ref s), x] ∧ Same H1 H' ∧ H' s = some (.lst (row n f)) ∧ Seat n f (gs.take j))
    ⟨_, _, rfl, s2, hs2, seat_none (by omega)⟩ (fun j σ H' _ ⟨_, _, _, sm, _⟩ => sm.seq hS) ?_ ?_
  · rintro j x σ H3 hj ⟨f, x5, rfl, sm, hs, S⟩
    have hlt := (List.getElem?_eq_some_iff.mp hj).1
    rw [List.length_map] at hlt
    rw [List.getElem?_map, List.getElem?_eq_getElem hlt] at hj
    cases hj
    have hnew := take_new nd hlt
    have hGj := hg _ (List.getElem_mem hlt)
    unfold t_seated_b1
    refine drop_any (fun v H' => ∃ f', Ring.Path n (hm n) f' ∧ (∀ x, Ring.Sits n f' x ↔ Ring.Sits n f x ∨ x = gs[j]) ∧ Off s H3 H' ∧ H' s = some (.lst (row n f'))) (fun R h => ?_) ?_
    · walk_at "run"; unfold sp_take_seat
      exact ⟨s, n, f, gs[j], rfl, hs, n2, n3, S.P, S.e (by omega), fun z => hnew ((S.st _).mp z), hGj, fun H' f' p of e P' st' _ _ => h _ _ ⟨f', P', st', of, e⟩⟩
    rintro _ H4 ⟨f', P', st', of, e⟩
    refine ⟨f', _, rfl, fun b o hb => of b o (fun z => by rw [z, f1] at hb; cases hb) (sm _ _ hb), e, ?_⟩
    rw [take_next hlt]
    exact S.add hnew hGj (by rw [List.length_take]; omega) P' st'
  rintro σ H3 ⟨f, x5, rfl, sm, hs, S⟩
  rw [List.length_map, List.take_length] at S
  walk_at "run"
  exact q _ s f sm hs f1 S
theorem not_int {H : Hp} {x : V} {s : Ty} (hx : ¬ ∃ i, x = .int i) (ht : tyOf H x = some s) : Ty.isA s .int = false ∨ Ty.isA s .bool = true := by
  cases x with
  | int i => exact absurd ⟨i, rfl⟩ hx
  | bl b => cases ht; exact .inr rfl
  | non => cases ht; exact .inl rfl
  | str z => cases ht; exact .inl rfl
  | byt b => cases ht
  | flt b => cases ht
  | ty n => cases ht
  | ref a =>
    have h' : (H a).bind hoTy = some s := ht
    cases e : H a with
    | none => rw [e] at h'; cases h'
    | some o =>
      rw [e] at h'
      have h2 : hoTy o = some s := h'
      cases o with
      | lst xs => cases h2; exact .inl rfl
      | tup xs => cases h2; exact .inl rfl
      | dK kvs => cases h2; exact .inl rfl
      | frz ob u =>
        cases u with
        | lst xs => cases h2; exact .inl rfl
        | _ => cases h2
      | _ => cases h2
theorem len_House_init (h : sp_House_init K C vs H Q E) : vs.length = (["self", "most"] : List Str).length := by
  unfold sp_House_init at h
  repeat (obtain ⟨_, h⟩ := h)
  subst_vars; rfl
theorem pure_House_init (XF : Facts K C) (XH : HF K C.cHouse) (h : sp_House_init K C vs H Q E) : t_House_init K C E { nx := fun _ H' => Q .non H', rt := Q } (start ["self", "most"] vs) H := by
  obtain ⟨p, dx, x, t, rfl, hp, ht, q1, q2⟩ := h
  show tSeq _ _ _ [some (.ref p), some x] H
  by_cases hx : ∃ M : Nat, x = .int M ∧ M ≤ 192
  · obtain ⟨M, rfl, hM⟩ := hx
    cases ht
    refine if_step (b := false) (H' := H) (fun R r => ?_) (fun z => nomatch z) (fun _ => ?_)
    · walk_at "run"
      rw [if_neg (by omega)]
      rw [decide_eq_false (by omega)]; exact r
    walk_at "nxt"
    unfold sFld
    walk_at "run"
    refine ⟨_, _, _, hp, XH.cl, XH.most, by show 0 < 1000; omega, ?_⟩
    refine ⟨sizes (by decide), fun p1 hp1 => ?_⟩
    unfold sp_room
    refine ⟨0, rfl, by omega, by omega, 8, rfl, _, upd_same, by omega, by omega, sizes (by decide), fun p2 hp2 => ?_⟩
    have hne1 : p1 ≠ p := fun z => by rw [z, upd_same] at hp1; cases hp1
    have hne2 : p2 ≠ p := fun z => by rw [z, upd_ne (fun w => hne1 w.symm), upd_same] at hp2; cases hp2
    have h21 : p2 ≠ p1 := fun z => by rw [z, upd_same] at hp2; cases hp2
    refine ⟨_, _, _, by rw [upd_ne (fun w => hne2 w.symm), upd_ne (fun w => hne1 w.symm), upd_same], XH.cl, XH.seats, by show 1 < 1000; omega, ?_⟩
    have f1 : H p1 = none := by rw [upd_ne hne1] at hp1; exact hp1
    have f2 : H p2 = none := by rw [upd_ne h21, upd_ne hne2] at hp2; exact hp2
    refine q1 M rfl hM _ p2 (fun b o hb ho => ?_) f2 ⟨⟨⟨dx, by rw [upd_same]; rfl⟩, ?_, seat_none (by omega), by omega, by omega⟩, rfl, by simp, hM⟩
    · rw [upd_ne hb, upd_ne (fun z => by rw [z, f2] at ho; cases ho), upd_ne (fun z => by rw [z, f1] at ho; cases ho), upd_ne hb]; exact ho
    · rw [upd_ne hne2, upd_same, ← row_none]; rfl
  · have q := q2 fun i e => by
      subst e
      by_cases z : i < 0 ∨ 192 < i
      · exact z
      · exact absurd ⟨i.toNat, by rw [show ((i.toNat : Nat) : Int) = i by omega], by omega⟩ hx
    by_cases hi : ∃ i, x = .int i
    · obtain ⟨i, rfl⟩ := hi
      cases ht
      refine if_step (b := true) (H' := H) (fun R r => ?_) (fun _ => q) (fun z => nomatch z)
      walk_at "run"
      by_cases z : i < 0
      · rw [if_pos z]; exact r
      · have : i > 192 := by
          by_cases w : i > 192
          · exact w
          · exact absurd ⟨i.toNat, by rw [show ((i.toNat : Nat) : Int) = i by omega], by omega⟩ hx
        rw [if_neg z, decide_eq_true this]; exact r
    · refine if_step (b := true) (H' := H) (fun R r => ?_) (fun _ => q) (fun z => nomatch z)
      simp only [tOr, tNot, tB, tCB, tCons, tNil, tVar, tC, rIsA]
      refine ⟨x, rfl, x, t, rfl, ht, t.isA .int, rfl, ?_⟩
      refine iteB (fun _ => r) fun e1 => ?_
      refine ⟨x, rfl, x, t, rfl, ht, t.isA .bool, rfl, ?_⟩
      rcases not_int hi ht with e2 | e2
      · rw [e2] at e1; cases e1
      · rw [e2]; exact r
theorem resize {D : Ends} {σ : L2.St} {i : Nat} {p : Addr} {M : Nat} {s : Addr} {n : Nat} {f : Nat → Option Int} {gs : List Int} {N : Nat} (XH : HF K C.cHouse) (h : Hs0 C H p M s n f gs) (e0 : σ[0]? = some (some (.ref p))) (ei : σ[i]? = some (some (.int N)))
    (hN : 8 ≤ N) (hN2 : N ≤ 256) (hl : gs.length < N) (k : ∀ (H' : Hp) (s' : Addr) (f' : Nat → Option Int), Off2 p s H H' → (s' = s ∨ H s' = none) → Hs0 C H' p M s' N f' gs → D.nx σ H') :
    tIfS (tTest (tOp rNe (tVar i) (tCB (rLenS K) (tCons (tFld K (tVar 0) "seats") tNil)))) (sFld K (tVar 0) (tCall (sp_seated K C) [] E (tCons (tMeth C.cHouse "guests" (sp_House_guests K C) [] E0 (tVar 0) tNil) (tCons (tVar i) tNil))) "seats") tNext D σ H := by
  obtain ⟨dx, hp⟩ := h.hp
  refine if_step (b := decide ((N : Int) ≠ (n : Int))) (H' := H) (fun R r => ?_) (fun _ => ?_) (fun e => ?_)
  · walk_at "run"
    refine ⟨_, ei, _, e0, _, rfl, _, _, _, hp, XH.cl, XH.seats, _, rfl, _, rfl, _, .inl h.sq, ?_⟩
    rw [row_len]; simpa using r
  · unfold sFld tCall tMeth
    walk_at "run"
    refine ⟨_, e0, _, rfl, _, _, hp, rfl, ?_⟩
    unfold sp_House_guests
    refine ⟨p, M, s, n, f, gs, rfl, h, fun H1 d ys s1 hd hys pm so => ⟨_, ei, ?_⟩⟩
    unfold sp_seated
    have l2 : ys.length = gs.length := pm.length_eq
    refine ⟨d, ys.map V.int, N, rfl, .inl (.inl hys), by rw [List.length_map]; omega, by omega, by omega, fun x hx => ?_, fun ⟨x, hx, z⟩ => ?_, fun gs' e hg => ?_⟩
    · obtain ⟨y, _, rfl⟩ := List.mem_map.mp hx
      exact ⟨.int, rfl⟩
    · obtain ⟨y, hy, rfl⟩ := List.mem_map.mp hx
      rw [h.S.g y (pm.mem_iff.mp hy)] at z; cases z
    have e2 : gs' = ys := (List.map_inj_right (fun a b z => by cases z; rfl)).mp e.symm
    subst e2
    have nd := pm.nodup_iff.mpr h.S.nd
    refine ⟨fun z => absurd nd z, fun _ z => by omega, fun _ _ H2 s2 f2 sm hs2 h0 S2 => ?_⟩
    have s12 := s1.trans sm
    have hp2 := s12 _ _ hp
    have h0' : H s2 = none := s1.free h0
    have hne : s2 ≠ p := fun z => by rw [z, hp] at h0'; cases h0'
    refine ⟨_, e0, _, rfl, _, _, _, hp2, XH.cl, XH.seats, by show 2 < 1000; omega, ?_⟩
    refine k _ s2 f2 (fun b o hb _ ho => by rw [upd_ne hb]; exact s12 _ _ ho) (.inr h0') ⟨⟨dx, ?_⟩, by rw [upd_ne hne]; exact hs2, S2.pm pm.symm, by omega, by omega⟩
    rw [upd_same]; rfl
  · have e' : (N : Int) = n := by simpa using e
    have : N = n := by omega
    subst this
    exact k _ _ _ (Off2.same (Same.refl _)) (.inl rfl) h
theorem len_House_come (h : sp_House_come K C vs H Q E) : vs.length = (["self", "guest"] : List Str).length := by
  unfold sp_House_come at h
  repeat (obtain ⟨_, h⟩ := h)
  subst_vars; rfl
theorem pure_House_come (XF : Facts K C) (XH : HF K C.cHouse) (h : sp_House_come K C vs H Q E) : t_House_come K C E { nx := fun _ H' => Q .non H', rt := Q } (start ["self", "guest", "size"] vs) H := by
  obtain ⟨p, M, s, n, f, gs, x, t, rfl, h, ht, qN, qY⟩ := h
  obtain ⟨dx, hp⟩ := h.hp
  have hn0 : 0 < n := by have := h.n2; omega
  show tSeq _ _ _ [some (.ref p), some x, none] H
  by_cases hG : isG x = true
  case neg =>
    refine if_any (b := true) (fun _ => False) (fun R r => ?_) (fun _ _ z => z.elim) (fun _ _ z => z.elim)
    walk_at "run"
    refine ⟨_, _, _, hp, XH.cl, XH.seats, _, rfl, ?_⟩
    unfold sp_place_of
    exact ⟨s, n, f, x, t, rfl, h.sq, by omega, h.n3, h.S.e hn0, ht, fun z => qN z, fun g' e z => absurd z hG⟩
  obtain ⟨g, rfl⟩ := isG_int hG
  obtain ⟨q1, q2, q3⟩ := qY g rfl hG
  have hh := hm_lt hn0
  by_cases st : g ∈ gs
  · refine if_ext (b := true) (fun R r => ?_) (fun _ H1 s1 => q1 st H1 s1) (fun z => nomatch z)
    walk_at "run"
    refine ⟨_, _, _, hp, XH.cl, XH.seats, _, rfl, ?_⟩
    unfold sp_place_of
    refine ⟨s, n, f, _, t, rfl, h.sq, by omega, h.n3, h.S.e hn0, ht, (fun z => by rw [hG] at z; cases z), fun g' e _ H' p sm hp l => ?_⟩
    cases e
    rw [if_pos ((Ring.loc_sits hh h.S.P hp l).mp ((h.S.st g).mpr st))]; exact r _ sm
  refine if_ext (b := false) (fun R r => ?_) (fun z => nomatch z) (fun _ H1 s1 => ?_)
  · walk_at "run"
    refine ⟨_, _, _, hp, XH.cl, XH.seats, _, rfl, ?_⟩
    unfold sp_place_of
    refine ⟨s, n, f, _, t, rfl, h.sq, by omega, h.n3, h.S.e hn0, ht, (fun z => by rw [hG] at z; cases z), fun g' e _ H' p sm hp l => ?_⟩
    cases e
    rw [if_neg (fun z => st ((h.S.st g).mp ((Ring.loc_sits hh h.S.P hp l).mpr z)))]; exact r _ sm
  have h1 := h.same s1
  have hp1 := s1 _ _ hp
  walk_at "nxt"
  refine if_step (b := decide (M ≤ gs.length)) (H' := H1) (fun R r => ?_) (fun e => q2 st (of_decide_eq_true e) H1 s1) (fun e => ?_)
  · walk_at "run"
    exact ⟨_, _, hp1, rfl, p, M, s, n, f, gs, rfl, h1.toHs0, _, _, _, hp1, XH.cl, XH.most, _, rfl, _, rfl, _, rfl, by rw [show decide ((M : Int) ≤ (gs.length : Nat)) = decide (M ≤ gs.length) from decide_eq_decide.mpr (by omega)]; exact r⟩
  have lM : gs.length < M := by have := of_decide_eq_false e; omega
  have hM := h.M3
  obtain ⟨N, eN, N1, N2, N3⟩ := roomI_nat (c := gs.length + 1) (by omega)
  walk_at "nxt"
  refine asg_step (v := .int N) (H' := H1) (fun R r => ?_) ?_
  · walk_at "run"
    refine ⟨_, _, hp1, rfl, p, M, s, n, f, gs, rfl, h1.toHs0, ?_⟩
    unfold sp_room
    exact ⟨_, rfl, _, rfl, by omega, by omega, by rw [show ((gs.length : Nat) : Int) + 1 = ((gs.length + 1 : Nat) : Int) by omega, eN]; exact r⟩
  walk_at "nxt"
  refine resize XH h1.toHs0 rfl rfl N1 N2 (by omega) fun H2 s2 f2 o2 hs2 h2 => ?_
  obtain ⟨dx2, hp2⟩ := h2.hp
  walk_at "nxt"
  refine ret_any (fun v H' => ∃ (f' : Nat → Option Int) (q : Nat), v = .int q ∧ Off s2 H2 H' ∧ Hs0 C H' p M s2 N f' (gs ++ [g]) ∧ q < N ∧ f' q = some g) (fun R r => ?_) ?_
  · walk_at "run"
    refine ⟨_, _, _, hp2, XH.cl, XH.seats, _, rfl, ?_⟩
    unfold sp_take_seat
    have ng : ¬ Ring.Sits N f2 g := fun z => st ((h2.S.st g).mp z)
    refine ⟨s2, N, f2, g, rfl, h2.hs, h2.n2, h2.n3, h2.S.P, h2.S.e (by omega), ng, hG, fun H' f' q o e P' st' hq hf => r _ _ ⟨f', q, rfl, o, h2.put o e ?_, hq, hf⟩⟩
    exact h2.S.add st hG (by omega) P' st'
  rintro v H3 ⟨f3, q, rfl, o3, h3, hq, hf⟩
  refine q3 st lM H3 s2 N f3 q (fun b o hb hb2 hbo => ?_) (hs2.imp id fun z => s1.free z) ⟨h3, ?_, ?_, hM⟩ hq hf
  · have w := o2 b o hb hb2 (s1 _ _ hbo)
    refine o3 b o (fun z => ?_) w
    subst z
    rcases hs2 with z | z
    · exact hb2 z
    · rw [s1 _ _ hbo] at z; cases z
  · rw [← eN, List.length_append]; rfl
  · rw [List.length_append]; exact lM
theorem len_House_go (h : sp_House_go K C vs H Q E) : vs.length = (["self", "guest"] : List Str).length := by
  unfold sp_House_go at h
  repeat (obtain ⟨_, h⟩ := h)
  subst_vars; rfl
theorem pure_House_go (XF : Facts K C) (XH : HF K C.cHouse) (h : sp_House_go K C vs H Q E) : t_House_go K C E { nx := fun _ H' => Q .non H', rt := Q } (start ["self", "guest", "at", "size"] vs) H := by
  obtain ⟨p, M, s, n, f, gs, x, t, rfl, h, ht, qN, qY⟩ := h
  obtain ⟨dx, hp⟩ := h.hp
  have hn0 : 0 < n := by have := h.n2; omega
  have hh := hm_lt hn0
  show tSeq _ _ _ [some (.ref p), some x, none, none] H
  by_cases hG : isG x = true
  case neg =>
    refine asg_any (fun _ _ => False) (fun R r => ?_) (fun _ _ z => z.elim)
    walk_at "run"
    refine ⟨_, _, _, hp, XH.cl, XH.seats, _, rfl, ?_⟩
    unfold sp_place_of
    exact ⟨s, n, f, x, t, rfl, h.sq, by omega, h.n3, h.S.e hn0, ht, fun z => qN z, fun g' e z => absurd z hG⟩
  obtain ⟨g, rfl⟩ := isG_int hG
  obtain ⟨q1, q2⟩ := qY g rfl hG
  refine asg_any (fun v H' => Same H H' ∧ ∃ q : Nat, q < n ∧ Ring.Loc n (hm n) f g q ∧ v = if f q = some g then .int q else .non) (fun R r => ?_) ?_
  · walk_at "run"
    refine ⟨_, _, _, hp, XH.cl, XH.seats, _, rfl, ?_⟩
    unfold sp_place_of
    refine ⟨s, n, f, _, t, rfl, h.sq, by omega, h.n3, h.S.e hn0, ht, (fun z => by rw [hG] at z; cases z), fun g' e _ H' q sm hq l => ?_⟩
    cases e
    exact r _ _ ⟨sm, q, hq, l, rfl⟩
  rintro v H1 ⟨s1, q, hq, l, hv⟩
  walk_at "nxt"
  by_cases st : f q = some g
  case neg =>
    rw [if_neg st] at hv; subst hv
    refine if_step (b := true) (H' := H1) (fun R r => ?_) (fun _ => q1 (fun z => st ((Ring.loc_sits hh h.S.P hq l).mp ((h.S.st g).mpr z))) H1 s1) (fun z => nomatch z)
    walk_at "run"; exact r
  rw [if_pos st] at hv; subst hv
  have hin : g ∈ gs := (h.S.st g).mp ⟨q, hq, st⟩
  refine if_step (b := false) (H' := H1) (fun R r => ?_) (fun z => nomatch z) (fun _ => ?_)
  · walk_at "run"; exact r
  have h1 := h.same s1
  have hp1 := s1 _ _ hp
  walk_at "nxt"
  refine drop_any (fun v H' => ∃ f', H' = upd H1 s (.lst (row n f')) ∧ Seat n f' (offG gs g)) (fun R r => ?_) ?_
  · walk_at "run"
    refine ⟨_, _, _, hp1, XH.cl, XH.seats, _, rfl, ?_⟩
    unfold sp_leave_seat
    exact ⟨s, n, f, q, g, rfl, h1.hs, h.n2, h.n3, h.S.P, h.S.e hn0, hq, st, fun f' P' st' => r _ _ ⟨f', rfl, h.S.del P' st' (offG_nd h.S.nd) fun x => offG_mem⟩⟩
  rintro v _ ⟨f', rfl, S'⟩
  have h2 : Hs0 C (upd H1 s (.lst (row n f'))) p M s n f' (offG gs g) := h1.toHs0.put Off.upd upd_same S'
  obtain ⟨dx2, hp2⟩ := h2.hp
  have hl := offG_len h.S.nd hin
  have hM := h.M3
  have hlM := h.lM
  obtain ⟨N, eN, N1, N2, N3⟩ := roomI_nat (c := (offG gs g).length) (by omega)
  walk_at "nxt"
  refine asg_step (v := .int N) (H' := upd H1 s (.lst (row n f'))) (fun R r => ?_) ?_
  · walk_at "run"
    refine ⟨_, _, hp2, rfl, p, M, s, n, f', _, rfl, h2, ?_⟩
    unfold sp_room
    exact ⟨_, rfl, by omega, by omega, by rw [eN]; exact r⟩
  walk_at "nxt"
  refine resize XH h2 rfl rfl N1 N2 (by omega) fun H2 s2 f2 o2 hs2 h2 => ?_
  walk_at "nxt"
  walk_at "run"
  refine q2 hin H2 s2 N f2 q (fun b o hb hb2 hbo => o2 b o hb hb2 (by rw [upd_ne hb2]; exact s1 _ _ hbo)) ?_ ⟨h2, eN.symm, by omega, hM⟩ hq st
  refine hs2.imp id fun z => s1.free ?_
  have : s2 ≠ s := fun w => by rw [w, upd_same] at z; cases z
  rw [upd_ne this] at z; exact z
theorem len_House_seat_of (h : sp_House_seat_of K C vs H Q E) : vs.length = (["self", "guest"] : List Str).length := by
  unfold sp_House_seat_of at h
  repeat (obtain ⟨_, h⟩ := h)
  subst_vars; rfl
theorem pure_House_seat_of (XF : Facts K C) (XH : HF K C.cHouse) (h : sp_House_seat_of K C vs H Q E) : t_House_seat_of K C E { nx := fun _ H' => Q .non H', rt := Q } (start ["self", "guest"] vs) H := by
  obtain ⟨p, M, s, n, f, gs, x, t, rfl, h, ht, qN, qY⟩ := h
  obtain ⟨dx, hp⟩ := h.hp
  have hn0 : 0 < n := by have := h.n2; omega
  show tRet _ _ [some (.ref p), some x] H
  walk_at "run"
  refine ⟨_, _, _, hp, XH.cl, XH.seats, _, rfl, ?_⟩
  unfold sp_place_of
  exact ⟨s, n, f, x, t, rfl, h.sq, by omega, h.n3, h.S.e hn0, ht, qN, fun g e hG H' q sm hq l => qY g e hG H' q sm hq l⟩
theorem len_House_row (h : sp_House_row K C vs H Q E) : vs.length = (["self"] : List Str).length := by
  unfold sp_House_row at h
  repeat (obtain ⟨_, h⟩ := h)
  subst_vars; rfl
theorem pure_House_row (XF : Facts K C) (XH : HF K C.cHouse) (h : sp_House_row K C vs H Q E) : t_House_row K C E { nx := fun _ H' => Q .non H', rt := Q } (start ["self"] vs) H := by
  obtain ⟨p, M, s, n, f, gs, rfl, h, q⟩ := h
  obtain ⟨dx, hp⟩ := h.hp
  show tRet _ _ [some (.ref p)] H
  walk_at "run"
  exact ⟨_, _, _, hp, XH.cl, XH.seats, _, rfl, _, rfl, _, .inl h.sq, fun l hl => q l hl⟩
theorem len_House_guests (h : sp_House_guests K C vs H Q E) : vs.length = (["self"] : List Str).length := by
  unfold sp_House_guests at h
  repeat (obtain ⟨_, h⟩ := h)
  subst_vars; rfl
theorem pure_House_guests (XF : Facts K C) (XH : HF K C.cHouse) (h : sp_House_guests K C vs H Q E) : t_House_guests K C E { nx := fun _ H' => Q .non H', rt := Q } (start ["self", "guest"] vs) H := by
  obtain ⟨p, M, s, n, f, gs, rfl, h, q⟩ := h
  obtain ⟨dx, hp⟩ := h.hp
  show tRet _ _ [some (.ref p), none] H
  unfold tRet tCB tCons
  refine lc_lst (a := s) (xs := row n f) (H' := H) (fun R r => ?_) h.sq (by rw [row_len]; have := h.n3; omega) (fun x => rfl) (fun i acc => acc = (Ring.gl i f).map V.int) rfl ?_ ?_
  · walk_at "run"; exact ⟨_, _, _, hp, XH.cl, XH.seats, _, rfl, r⟩
  · rintro i x acc H2 hi sm rfl
    obtain ⟨hi, rfl⟩ := row_some hi
    refine ⟨!decide (ov (f i) = .non), fun R h => ?_, fun e => ⟨ov (f i), fun R h => ⟨_, rfl, h⟩, ?_⟩, fun e => ?_⟩
    · exact ⟨_, rfl, ⟨_, rfl, h⟩⟩
    · rw [gl_next]
      cases hy : f i with
      | none => rw [hy] at e; cases e
      | some g => rw [List.map_append]; rfl
    · rw [gl_next]
      cases hy : f i with
      | none => simp
      | some g => rw [hy] at e; simp [ov] at e
  · rintro D H3 acc hD sm ha rfl hl
    rw [row_len] at ha
    walk_at "run"
    unfold rSortedI
    refine ⟨D, _, rfl, .inl (.inl ha), fun l1 p1 pm1 so1 hp1 => ?_⟩
    exact q _ p1 l1 (sm.trans (same_new hp1)) (sm.free hp1) upd_same (pm1.trans (h.S.perm (by have := h.n2; omega))) so1
theorem len_House_many (h : sp_House_many K C vs H Q E) : vs.length = (["self"] : List Str).length := by
  unfold sp_House_many at h
  repeat (obtain ⟨_, h⟩ := h)
  subst_vars; rfl
theorem pure_House_many (XF : Facts K C) (XH : HF K C.cHouse) (h : sp_House_many K C vs H Q E) : t_House_many K C E { nx := fun _ H' => Q .non H', rt := Q } (start ["self"] vs) H := by
  obtain ⟨p, M, s, n, f, gs, rfl, h, q⟩ := h
  obtain ⟨dx, hp⟩ := h.hp
  show tRet _ _ [some (.ref p)] H
  have em := h.S.em (by have := h.n2; omega)
  unfold tBM
  walk_at "run"
  refine ⟨_, _, _, hp, XH.cl, XH.seats, _, rfl, _, rfl, _, .inl h.sq, _, _, _, hp, XH.cl, XH.seats, _, rfl, ty_list h.sq, _, _, _, rfl, rfl, h.sq, rfl, row_flat, ?_⟩
  rw [cnt_row, row_len]
  refine ⟨_, rfl, ?_⟩
  rw [show (n : Int) - (Ring.em n f : Nat) = (gs.length : Nat) by omega]
  exact q
theorem len_law_cell_at (h : sp_law_cell_at K C vs H Q E) : vs.length = (["_law_script", "_law_k"] : List Str).length := by
  unfold sp_law_cell_at at h
  repeat (obtain ⟨_, h⟩ := h)
  subst_vars; rfl
theorem pure_law_cell_at (XF : Facts K C) (XH : HF K C.cHouse) (h : sp_law_cell_at K C vs H Q E) : t_law_cell_at K C E { nx := fun _ H' => Q .non H', rt := Q } (start ["_law_script", "_law_k"] vs) H := by
  obtain ⟨a, ns, k, rfl, hS, h0, q⟩ := h
  show tSeq _ _ _ [some (.ref a), some (.int k)] H
  walk_at "run"
  refine ⟨_, .inl hS, ?_⟩
  rw [List.length_map]
  unfold cellI at q
  split
  · rename_i hk
    rw [if_pos hk] at q
    refine ⟨_, hS, .int (ns.getD k.toNat 0), at_of (j := k.toNat) (by omega) ?_, q⟩
    rw [List.getElem?_map, List.getElem?_eq_getElem (by omega), List.getD_eq_getElem?_getD, List.getElem?_eq_getElem (by omega)]
    rfl
  · rename_i hk
    rw [if_neg hk] at q
    exact q
theorem len_law_whole (h : sp_law_whole K C vs H Q E) : vs.length = (["_law_found"] : List Str).length := by
  unfold sp_law_whole at h
  repeat (obtain ⟨_, h⟩ := h)
  subst_vars; rfl
theorem pure_law_whole (XF : Facts K C) (XH : HF K C.cHouse) (h : sp_law_whole K C vs H Q E) : t_law_whole K C E { nx := fun _ H' => Q .non H', rt := Q } (start ["_law_found"] vs) H := by
  obtain ⟨x, s, rfl, ht, q⟩ := h
  show tRet _ _ [some x] H
  have key : (Ty.isA s .int && !Ty.isA s .bool) = isWh x := by
    cases x with
    | int i => cases ht; rfl
    | bl b => cases ht; rfl
    | non => cases ht; rfl
    | str z => cases ht; rfl
    | byt b => cases ht
    | flt b => cases ht
    | ty n => cases ht
    | ref a =>
      have h' : (H a).bind hoTy = some s := ht
      cases e : H a with
      | none => rw [e] at h'; cases h'
      | some o =>
        rw [e] at h'
        have h2 : hoTy o = some s := h'
        cases o with
        | lst xs => cases h2; rfl
        | tup xs => cases h2; rfl
        | dK kvs => cases h2; rfl
        | frz ob u =>
          cases u with
          | lst xs => cases h2; rfl
          | _ => cases h2
        | _ => cases h2
  simp only [tRet, tAndV, tNotV, tCB, tCons, tNil, tVar, tC, rIsA]
  refine ⟨x, rfl, x, s, rfl, ht, s.isA .int, rfl, ?_⟩
  refine iteB (fun e => ?_) fun e => ?_
  · refine ⟨x, rfl, x, s, rfl, ht, s.isA .bool, rfl, ?_⟩
    rw [e] at key
    rw [show (!Ty.isA s .bool) = isWh x from by rw [← key]; rfl]
    exact q
  · rw [e] at key
    rw [show false = isWh x from by rw [← key]; rfl]
    exact q
theorem len_law_home (h : sp_law_home K C vs H Q E) : vs.length = (["_law_guest", "_law_many"] : List Str).length := by
  unfold sp_law_home at h
  repeat (obtain ⟨_, h⟩ := h)
  subst_vars; rfl
theorem pure_law_home (XF : Facts K C) (XH : HF K C.cHouse) (h : sp_law_home K C vs H Q E) : t_law_home K C E { nx := fun _ H' => Q .non H', rt := Q } (start ["_law_guest", "_law_many"] vs) H := by
  obtain ⟨g, n, rfl, h0, q⟩ := h
  show tRet _ _ [some (.int g), some (.int n)] H
  walk_at "run"
  exact ⟨h0, q⟩
theorem len_law_settled (h : sp_law_settled K C vs H Q E) : vs.length = (["_law_seats", "_law_guests"] : List Str).length := by
  unfold sp_law_settled at h
  repeat (obtain ⟨_, h⟩ := h)
  subst_vars; rfl
theorem pure_law_settled (XF : Facts K C) (XH : HF K C.cHouse) (h : sp_law_settled K C vs H Q E) : t_law_settled K C E { nx := fun _ H' => Q .non H', rt := Q } (start ["_law_seats", "_law_guests", "_law_many", "_law_at", "_law_way", "_law_before", "_law_guest"] vs) H := by
  obtain ⟨s, a, n, f, gs, rfl, hs, hA, hn, P, he, pm, rm, hl, q⟩ := h
  have hS : SqL K H s (row n f) := .inl (.inl hs)
  show tSeq _ _ _ [some (.ref s), some (.ref a), none, none, none, none, none] H
  refine asg_step (v := .int 8) (H' := H) (fun R r => r) ?_
  walk_at "nxt"
  refine while_step (fun m σ H' => H' = H ∧ ∃ z : Int, σ = [some (.ref s), some (.ref a), some (.int z), none, none, none, none] ∧ (z = 8 ∨ z = 16 ∨ z = 32 ∨ z = 64 ∨ z = 128 ∨ z = 256) ∧ (z = 8 ∨ 4 * (gs.length : Int) > 3 * (z / 2)) ∧ m = (256 - z).toNat) ⟨_, rfl, 8, rfl, .inl rfl, .inl rfl, rfl⟩ ?_
  rintro m σ H' ⟨rfl, z, rfl, hz, hb, rfl⟩
  refine ⟨decide (4 * (gs.length : Int) > 3 * z), fun R r => ?_, fun e => ?_, fun e => ?_⟩
  · walk_at "run"
    refine ⟨_, .inl hA, ?_⟩
    rw [List.length_map]; simpa using r
  · have e' := of_decide_eq_true e
    unfold t_law_settled_b1
    refine asg_step (v := .int (z * 2)) (H' := H') (fun R r => ?_) ?_
    · walk_at "run"; exact r
    exact ⟨_, by omega, rfl, z * 2, rfl, by omega, by omega, rfl⟩
  have e' := of_decide_eq_false e
  have ez : z = (n : Int) := by rw [rm]; unfold roomI; repeat (split <;> try omega)
  subst ez
  have hl' := hl
  walk_at "nxt"
  have hin := in_none.mpr he
  refine if_step (b := false) (H' := H') (fun R h => ?_) (fun z => nomatch z) (fun _ => ?_)
  · walk_at "run"; refine ⟨_, tyOf_at hs rfl, ?_⟩
    walk_at "run"
    refine ⟨_, .inl hS, ?_⟩
    rw [row_len, if_neg (by simp)]
    exact ⟨_, .inl hS, rfl, row_flat, by rw [hin]; exact h⟩
  walk_at "nxt"
  refine for_rng1 (n := n) (j := n) (H' := H') (fun R h => ?_) rfl (by omega) (fun k σ H'' => H'' = H' ∧ ∃ x y z, σ = [some (.ref s), some (.ref a), some (.int n), x, y, z, none]) ⟨rfl, _, _, _, rfl⟩ ?_ ?_
  · walk_at "run"; exact h
  · rintro k σ H' hk ⟨rfl, x, y, z, rfl⟩
    have hn0 : 0 < n := by omega
    have hh := hm_lt hn0
    unfold t_law_settled_b2
    cases hy : f k with
    | none =>
      refine if_step (b := false) (H' := H') (fun R h => ?_) (fun z => nomatch z) (fun _ => ⟨rfl, _, _, _, rfl⟩)
      walk_at "run"; exact ⟨_, hS, _, row_at hk, by rw [hy]; exact h⟩
    | some g =>
      refine if_step (b := true) (H' := H') (fun R h => ?_) (fun _ => ?_) (fun z => nomatch z)
      · walk_at "run"; exact ⟨_, hS, _, row_at hk, by rw [hy]; exact h⟩
      refine if_step (b := false) (H' := H') (fun R h => ?_) (fun z => nomatch z) (fun _ => ?_)
      · walk_at "run"; refine ⟨_, hS, _, row_at hk, ?_⟩
        rw [hy]; unfold sp_law_whole; walk_at "run"; exact h
      walk_at "nxt"
      refine asg_step (v := .int (Ring.far n (hm n g) k)) (H' := H') (fun R h => ?_) ?_
      · walk_at "run"; refine ⟨_, hS, _, row_at hk, ?_⟩
        rw [hy]; unfold sp_law_home; walk_at "run"
        refine ⟨by omega, by omega, ?_⟩
        have := far_is hk g
        unfold farI at this
        rw [this]; exact h
      walk_at "nxt"
      by_cases hw : hm n g = k
      · have e0 : ¬ ((Ring.far n (hm n g) k : Int) > 0) := by rw [hw, Ring.far_self]; omega
        refine if_step (b := false) (H' := H') (fun R h => ?_) (fun z => nomatch z) (fun _ => ?_)
        · walk_at "run"; rw [if_neg e0]; exact h
        walk_at "nxt"
        refine if_step (b := false) (H' := H') (fun R h => ?_) (fun z => nomatch z) (fun _ => ⟨rfl, _, _, _, rfl⟩)
        walk_at "run"; rw [decide_eq_false e0]; exact h
      · have fp := Ring.far_pv (hh g) hk (fun z => hw z.symm)
        have e0 : (Ring.far n (hm n g) k : Int) > 0 := by omega
        obtain ⟨yb, hyb, ab⟩ := Ring.path_before hh P hk hy hw
        refine if_step (b := false) (H' := H') (fun R h => ?_) (fun z => nomatch z) (fun _ => ?_)
        · walk_at "run"; rw [if_pos e0]; exact ⟨_, hS, _, at_before hk, by rw [hyb]; exact h⟩
        walk_at "nxt"
        refine if_step (b := true) (H' := H') (fun R h => ?_) (fun _ => ?_) (fun z => nomatch z)
        · walk_at "run"; rw [decide_eq_true e0]; exact h
        refine asg_step (v := .int ((Ring.far n (hm n yb) (Ring.pv n k) : Int) + 1)) (H' := H') (fun R h => ?_) ?_
        · walk_at "run"; refine ⟨_, hS, _, at_before hk, ?_⟩
          rw [hyb]; unfold sp_law_home; walk_at "run"
          refine ⟨by omega, by omega, ?_⟩
          rw [far_before_is hk]; exact h
        walk_at "nxt"
        refine if_step (b := false) (H' := H') (fun R h => ?_) (fun z => nomatch z) (fun _ => ⟨rfl, _, _, _, rfl⟩)
        walk_at "run"
        unfold Ring.Ah at ab
        rw [if_neg (by omega)]
        by_cases e1 : (Ring.far n (hm n yb) (Ring.pv n k) : Int) + 1 = (Ring.far n (hm n g) k : Int)
        · rw [if_pos e1]
          refine ⟨_, hS, _, at_before hk, _, hS, _, row_at hk, ?_⟩
          rw [hyb, hy]; walk_at "run"
          rw [decide_eq_false (by omega)]; exact h
        · rw [if_neg e1]; exact h
  · rintro σ H' ⟨rfl, x, y, z, rfl⟩
    refine nx_at ?_
    refine ret_any (fun v H2 => Same H' H2 ∧ v = .bl true) (fun R h => ?_) ?_
    rotate_left
    · rintro v H2 ⟨hv, rfl⟩; exact q _ hv
    unfold tOp tCB tCons
    refine lc_lst (a := s) (xs := row n f) (H' := H') (fun R h => ⟨_, rfl, h⟩) hS (by rw [row_len]; omega) (fun x => rfl) (fun i acc => acc = (Ring.gl i f).map V.int) rfl ?_ ?_
    · rintro i x acc H2 hi sm rfl
      obtain ⟨hi, rfl⟩ := row_some hi
      refine ⟨!decide (ov (f i) = .non), fun R h => ?_, fun e => ⟨ov (f i), fun R h => ⟨_, rfl, h⟩, ?_⟩, fun e => ?_⟩
      · exact ⟨_, rfl, ⟨_, rfl, h⟩⟩
      · rw [gl_next]
        cases hy : f i with
        | none => rw [hy] at e; cases e
        | some g => rw [List.map_append]; rfl
      · rw [gl_next]
        cases hy : f i with
        | none => simp
        | some g => rw [hy] at e; simp [ov] at e
    · rintro D H3 acc hD sm ha rfl hl
      rw [row_len] at ha
      walk_at "run"
      unfold rSortedI
      refine ⟨D, _, rfl, .inl (.inl ha), fun l1 p1 pm1 so1 hp1 => ?_⟩
      refine ⟨a, gs, rfl, (same_new hp1).seq (sm.seq hA), fun l2 p2 pm2 so2 hp2 => ?_⟩
      have e := sorted_one pm1 pm2 so1 so2 pm
      subst e
      exact eqD_lst ((same_new hp2).seq (.inl (.inl upd_same))) (.inl (.inl upd_same)) ints_flD (h _ _ ⟨sm.trans ((same_new hp1).trans (same_new hp2)), rfl⟩)
theorem len_law_size (h : sp_law_size K C vs H Q E) : vs.length = (["_law_cell"] : List Str).length := by
  unfold sp_law_size at h
  repeat (obtain ⟨_, h⟩ := h)
  subst_vars; rfl
theorem pure_law_size (XF : Facts K C) (XH : HF K C.cHouse) (h : sp_law_size K C vs H Q E) : t_law_size K C E { nx := fun _ H' => Q .non H', rt := Q } (start ["_law_cell", "_law_number", "_law_some"] vs) H := by
  obtain ⟨c, rfl, q⟩ := h
  show tSeq _ _ _ [some (.int c), none, none] H
  obtain ⟨g, hg⟩ : ∃ g, g = c / 13 % 10000000000000000000000000000000000000000 := ⟨_, rfl⟩
  obtain ⟨g0, g1⟩ : 0 ≤ g ∧ g < 10000000000000000000000000000000000000000 := by omega
  refine asg_step (v := .int g) (H' := H) (fun R h => ?_) ?_
  · walk_at "run"; rw [← hg]; exact h
  refine nxt_seq ?_
  refine asg_any (fun v H' => ∃ (z : Addr) (xs : List V), v = .ref z ∧ Same H H' ∧ H' z = some (.lst xs) ∧ xs.length = 13 ∧ ∀ x ∈ xs, ((∀ i : Int, x = .int i → i < 0 ∨ 192 < i)) ∧ ∃ s, tyOf H' x = some s) (fun R h => ?_) ?_
  · walk_at "run"
    refine ⟨sizes (by decide), fun p1 h1 => ⟨sizes (by decide), fun p2 h2 p3 h3 => ⟨sizes (by decide), fun p4 h4 => ⟨sizes (by decide), fun p5 h5 => h _ _ ⟨p5, _, rfl, ?_, upd_same, rfl, ?_⟩⟩⟩⟩⟩
    · exact (same_new h1).trans ((same_new h2).trans ((same_new h3).trans ((same_new h4).trans (same_new h5))))
    have t1 := same_new h5 (o := .lst [V.bl true, V.bl false, V.non, V.str "", V.str "8", V.ref p1, V.ref p2, V.ref p3, V.int (-1), V.int 193, V.int (-2 - g), V.int (194 + g), V.ref p4]) _ _ (same_new h4 (o := .lst []) _ _ (same_new h3 (o := .dK []) _ _ (same_new h2 (o := .tup [V.int 8]) _ _ (upd_same (H := H) (a := p1) (o := .lst [V.int 8])))))
    have t2 := same_new h5 (o := .lst [V.bl true, V.bl false, V.non, V.str "", V.str "8", V.ref p1, V.ref p2, V.ref p3, V.int (-1), V.int 193, V.int (-2 - g), V.int (194 + g), V.ref p4]) _ _ (same_new h4 (o := .lst []) _ _ (same_new h3 (o := .dK []) _ _ (upd_same (H := upd H p1 (.lst [V.int 8])) (a := p2) (o := .tup [V.int 8]))))
    have t3 := same_new h5 (o := .lst [V.bl true, V.bl false, V.non, V.str "", V.str "8", V.ref p1, V.ref p2, V.ref p3, V.int (-1), V.int 193, V.int (-2 - g), V.int (194 + g), V.ref p4]) _ _ (same_new h4 (o := .lst []) _ _ (upd_same (H := upd (upd H p1 (.lst [V.int 8])) p2 (.tup [V.int 8])) (a := p3) (o := .dK [])))
    have t4 := same_new h5 (o := .lst [V.bl true, V.bl false, V.non, V.str "", V.str "8", V.ref p1, V.ref p2, V.ref p3, V.int (-1), V.int 193, V.int (-2 - g), V.int (194 + g), V.ref p4]) _ _ (upd_same (H := upd (upd (upd H p1 (.lst [V.int 8])) p2 (.tup [V.int 8])) p3 (.dK [])) (a := p4) (o := .lst []))
    intro x hx
    simp only [List.mem_cons, List.not_mem_nil, or_false] at hx
    rcases hx with rfl | rfl | rfl | rfl | rfl | rfl | rfl | rfl | rfl | rfl | rfl | rfl | rfl
    · exact ⟨(fun i e => nomatch e), _, rfl⟩
    · exact ⟨(fun i e => nomatch e), _, rfl⟩
    · exact ⟨(fun i e => nomatch e), _, rfl⟩
    · exact ⟨(fun i e => nomatch e), _, rfl⟩
    · exact ⟨(fun i e => nomatch e), _, rfl⟩
    · exact ⟨(fun i e => nomatch e), _, tyOf_at t1 rfl⟩
    · exact ⟨(fun i e => nomatch e), _, tyOf_at t2 rfl⟩
    · exact ⟨(fun i e => nomatch e), _, tyOf_at t3 rfl⟩
    · exact ⟨fun i e => by cases e; omega, _, rfl⟩
    · exact ⟨fun i e => by cases e; omega, _, rfl⟩
    · exact ⟨fun i e => by cases e; omega, _, rfl⟩
    · exact ⟨fun i e => by cases e; omega, _, rfl⟩
    · exact ⟨(fun i e => nomatch e), _, tyOf_at t4 rfl⟩
  rintro _ H2 ⟨z, xs, rfl, sm, hz, hl, key⟩
  have hj : (c % 13).toNat < xs.length := by omega
  obtain ⟨k1, s, k2⟩ := key _ (List.getElem_mem hj)
  refine nx_at ?_
  walk_at "run"
  exact ⟨_, .inl (.inl hz), _, at_of (j := (c % 13).toNat) (by omega) (List.getElem?_eq_getElem hj), q _ _ s sm k2 k1⟩
theorem len_law_odd (h : sp_law_odd K C vs H Q E) : vs.length = (["_law_cell"] : List Str).length := by
  unfold sp_law_odd at h
  repeat (obtain ⟨_, h⟩ := h)
  subst_vars; rfl
theorem pure_law_odd (XF : Facts K C) (XH : HF K C.cHouse) (h : sp_law_odd K C vs H Q E) : t_law_odd K C E { nx := fun _ H' => Q .non H', rt := Q } (start ["_law_cell", "_law_number", "_law_some"] vs) H := by
  obtain ⟨c, rfl, q⟩ := h
  show tSeq _ _ _ [some (.int c), none, none] H
  obtain ⟨g, hg⟩ : ∃ g, g = c / 13 % 10000000000000000000000000000000000000000 := ⟨_, rfl⟩
  obtain ⟨g0, g1⟩ : 0 ≤ g ∧ g < 10000000000000000000000000000000000000000 := by omega
  refine asg_step (v := .int g) (H' := H) (fun R h => ?_) ?_
  · walk_at "run"; rw [← hg]; exact h
  refine nxt_seq ?_
  refine asg_any (fun v H' => ∃ (z : Addr) (xs : List V), v = .ref z ∧ Same H H' ∧ H' z = some (.lst xs) ∧ xs.length = 13 ∧ ∀ x ∈ xs, (isG x = false) ∧ (∀ b, x = .ref b → H b = none) ∧ ∃ s, tyOf H' x = some s) (fun R h => ?_) ?_
  · walk_at "run"
    refine ⟨sizes (by decide), fun p1 h1 => ⟨sizes (by decide), fun p2 h2 p3 h3 => ⟨sizes (by decide), fun p4 h4 => ⟨sizes (by decide), fun p5 h5 => h _ _ ⟨p5, _, rfl, ?_, upd_same, rfl, ?_⟩⟩⟩⟩⟩
    · exact (same_new h1).trans ((same_new h2).trans ((same_new h3).trans ((same_new h4).trans (same_new h5))))
    have t1 := same_new h5 (o := .lst [V.bl true, V.bl false, V.non, V.str "", V.str "7", V.ref p1, V.ref p2, V.ref p3, V.int (-1), V.int 1000000000000000000000000000000000000000000000000000000000000, V.int (-2 - g), V.int (1000000000000000000000000000000000000000000000000000000000000 + 1 + g), V.ref p4]) _ _ (same_new h4 (o := .lst []) _ _ (same_new h3 (o := .dK []) _ _ (same_new h2 (o := .tup [V.int 7]) _ _ (upd_same (H := H) (a := p1) (o := .lst [V.int 7])))))
    have t2 := same_new h5 (o := .lst [V.bl true, V.bl false, V.non, V.str "", V.str "7", V.ref p1, V.ref p2, V.ref p3, V.int (-1), V.int 1000000000000000000000000000000000000000000000000000000000000, V.int (-2 - g), V.int (1000000000000000000000000000000000000000000000000000000000000 + 1 + g), V.ref p4]) _ _ (same_new h4 (o := .lst []) _ _ (same_new h3 (o := .dK []) _ _ (upd_same (H := upd H p1 (.lst [V.int 7])) (a := p2) (o := .tup [V.int 7]))))
    have t3 := same_new h5 (o := .lst [V.bl true, V.bl false, V.non, V.str "", V.str "7", V.ref p1, V.ref p2, V.ref p3, V.int (-1), V.int 1000000000000000000000000000000000000000000000000000000000000, V.int (-2 - g), V.int (1000000000000000000000000000000000000000000000000000000000000 + 1 + g), V.ref p4]) _ _ (same_new h4 (o := .lst []) _ _ (upd_same (H := upd (upd H p1 (.lst [V.int 7])) p2 (.tup [V.int 7])) (a := p3) (o := .dK [])))
    have t4 := same_new h5 (o := .lst [V.bl true, V.bl false, V.non, V.str "", V.str "7", V.ref p1, V.ref p2, V.ref p3, V.int (-1), V.int 1000000000000000000000000000000000000000000000000000000000000, V.int (-2 - g), V.int (1000000000000000000000000000000000000000000000000000000000000 + 1 + g), V.ref p4]) _ _ (upd_same (H := upd (upd (upd H p1 (.lst [V.int 7])) p2 (.tup [V.int 7])) p3 (.dK [])) (a := p4) (o := .lst []))
    intro x hx
    simp only [List.mem_cons, List.not_mem_nil, or_false] at hx
    rcases hx with rfl | rfl | rfl | rfl | rfl | rfl | rfl | rfl | rfl | rfl | rfl | rfl | rfl
    · exact ⟨rfl, (fun b e => nomatch e), _, rfl⟩
    · exact ⟨rfl, (fun b e => nomatch e), _, rfl⟩
    · exact ⟨rfl, (fun b e => nomatch e), _, rfl⟩
    · exact ⟨rfl, (fun b e => nomatch e), _, rfl⟩
    · exact ⟨rfl, (fun b e => nomatch e), _, rfl⟩
    · exact ⟨rfl, (fun b e => by cases e; exact h1), _, tyOf_at t1 rfl⟩
    · exact ⟨rfl, (fun b e => by cases e; exact (same_new h1).free h2), _, tyOf_at t2 rfl⟩
    · exact ⟨rfl, (fun b e => by cases e; exact ((same_new h1).trans (same_new h2)).free h3), _, tyOf_at t3 rfl⟩
    · exact ⟨isG_neg (by omega), (fun b e => nomatch e), _, rfl⟩
    · exact ⟨isG_big (by omega), (fun b e => nomatch e), _, rfl⟩
    · exact ⟨isG_neg (by omega), (fun b e => nomatch e), _, rfl⟩
    · exact ⟨isG_big (by omega), (fun b e => nomatch e), _, rfl⟩
    · exact ⟨rfl, (fun b e => by cases e; exact ((same_new h1).trans ((same_new h2).trans (same_new h3))).free h4), _, tyOf_at t4 rfl⟩
  rintro _ H2 ⟨z, xs, rfl, sm, hz, hl, key⟩
  have hj : (c % 13).toNat < xs.length := by omega
  obtain ⟨k1, k0, s, k2⟩ := key _ (List.getElem_mem hj)
  refine nx_at ?_
  walk_at "run"
  exact ⟨_, .inl (.inl hz), _, at_of (j := (c % 13).toNat) (by omega) (List.getElem?_eq_getElem hj), q _ _ s sm k2 k1 k0⟩
theorem len_law_kinds {a : Addr} {cls : Value} {d : Option Addr} (h : sp_law_kinds K C a cls d vs H Q E) : vs.length = (["_law_e"] : List Str).length := by
  unfold sp_law_kinds at h
  repeat (obtain ⟨_, h⟩ := h)
  subst_vars; rfl
theorem pure_law_kinds (XF : Facts K C) (XH : HF K C.cHouse) {a : Addr} {cls : Value} {d : Option Addr} (h : sp_law_kinds K C a cls d vs H Q E) : t_law_kinds K C E a cls d { nx := fun _ H' => Q .non H', rt := Q } (start ["_law_e", "_law_base"] vs) H := by
  obtain ⟨x, rfl, rfl, rfl, q⟩ := h
  show tSeq _ _ _ [some (.ref a), none] H
  refine asg_step (v := .bl true) (H' := H) (fun R r => ?_) ?_
  · walk_at "run"; unfold rIsX; exact ⟨x, rfl, rfl, .inr ⟨rfl, r⟩⟩
  walk_at "nxt"
  walk_at "run"
  unfold rIsX
  refine ⟨x, rfl, rfl, .inl ⟨.noGuest, rfl, ?_⟩⟩
  refine ⟨x, rfl, rfl, .inl ⟨.noSize, rfl, ?_⟩⟩
  refine ⟨x, rfl, rfl, .inl ⟨.twice, rfl, ?_⟩⟩
  refine ⟨x, rfl, rfl, .inl ⟨.away, rfl, ?_⟩⟩
  refine ⟨x, rfl, rfl, .inl ⟨.full, rfl, ?_⟩⟩
  walk_at "run"
  exact ⟨sizes (by decide), fun p hp => q p hp⟩
theorem len_law_only (h : sp_law_only K C vs H Q E) : vs.length = (["_law_at"] : List Str).length := by
  unfold sp_law_only at h
  repeat (obtain ⟨_, h⟩ := h)
  subst_vars; rfl
theorem pure_law_only (XF : Facts K C) (XH : HF K C.cHouse) (h : sp_law_only K C vs H Q E) : t_law_only K C E { nx := fun _ H' => Q .non H', rt := Q } (start ["_law_at", "_law_k"] vs) H := by
  obtain ⟨x, rfl, q⟩ := h
  show tRet _ _ [some (.int (ekI x : Nat)), none] H
  refine ret_any (fun v H' => Same H H' ∧ ∃ l, v = .ref l ∧ H' l = some (.lst (kindsL x))) (fun R r => ?_) ?_
  rotate_left
  · rintro _ H' ⟨sm, l, rfl, hl⟩; exact q H' l sm hl
  refine lc_rng1 (n := 6) (j := 6) (H' := H) (fun R r => r) rfl (by decide) (fun x => rfl) (fun i acc => acc = (kindsL x).take i) rfl ?_ ?_
  · rintro i acc H2 hi sm rfl
    refine ⟨true, fun R r => r, fun _ => ⟨.bl (decide (i = ekI x) || decide (i = 5)), fun R r => ?_, (kinds_take hi).symm⟩, fun z => nomatch z⟩
    show tOrV _ _ [some (.int (ekI x : Nat)), some (.int (i : Nat))] H2 R
    by_cases e : i = ekI x
    · rw [decide_eq_true e, Bool.true_or] at r
      subst e
      walk_at "run"
      exact r
    · rw [decide_eq_false e, Bool.false_or] at r
      walk_at "run"
      rw [if_neg (by omega)]
      have e2 : decide ((i : Int) = 5) = decide (i = 5) := decide_eq_decide.mpr (by omega)
      rw [e2]; exact r
  · rintro D H3 acc hD sm ha rfl hl
    exact r _ _ ⟨sm, D, rfl, ha⟩
theorem len_law_made (h : sp_law_made K C vs H Q E) : vs.length = (["_law_size_here"] : List Str).length := by
  unfold sp_law_made at h
  repeat (obtain ⟨_, h⟩ := h)
  subst_vars; rfl
theorem pure_law_made (XF : Facts K C) (XH : HF K C.cHouse) (h : sp_law_made K C vs H Q E) : t_law_made K C E { nx := fun _ H' => Q .non H', rt := Q } (start ["_law_size_here", "_law_e"] vs) H := by
  obtain ⟨x, t, rfl, ht, hb, q⟩ := h
  show tSeq _ _ _ [some x, none] H
  unfold tTryAs t_law_made_b1_try
  unfold tSeq tDrop tMakeW
  walk_at "run"
  intro p dx hp hdx hne
  have sm : Same H (upd (upd H dx (.own p)) p (.ins C.cHouse dx [])) := fun b o hb => by
    rw [upd_ne (fun z => by rw [z, hp] at hb; cases hb), upd_ne (fun z => by rw [z, hdx] at hb; cases hb)]; exact hb
  unfold sp_House_init
  refine ⟨p, dx, x, t, rfl, upd_same, tyOf_same ht sm, fun M e hM => ?_, fun _ => ⟨true, XF.exm .noSize, fun _ a' ha' => by
      unfold t_law_made_b1_exc
      exact told (x := .noSize) (i := 1) rfl fun l hl => q _ l (sm.trans (same_new hl)) upd_same, (fun z => nomatch z)⟩⟩
  have := hb M e
  omega
theorem len_law_comes (h : sp_law_comes K C vs H Q E) : vs.length = (["_law_house_here", "_law_guest"] : List Str).length := by
  unfold sp_law_comes at h
  repeat (obtain ⟨_, h⟩ := h)
  subst_vars; rfl
theorem pure_law_comes (XF : Facts K C) (XH : HF K C.cHouse) (h : sp_law_comes K C vs H Q E) : t_law_comes K C E { nx := fun _ H' => Q .non H', rt := Q } (start ["_law_house_here", "_law_guest", "_law_e"] vs) H := by
  obtain ⟨p, M, s, n, f, gs, x, t, k, rfl, hH, ht, hN, hY, q⟩ := h
  obtain ⟨dx, hp⟩ := hH.hp
  show tSeq _ _ _ [some (.ref p), some x, none] H
  unfold tTryAs t_law_comes_b1_try
  unfold tSeq tDrop tMethW
  walk_at "run"
  refine ⟨_, _, hp, rfl, ?_⟩
  unfold sp_House_come
  refine ⟨p, M, s, n, f, gs, x, t, rfl, hH, ht, fun z => ?_, fun g e hG => ⟨fun st H1 s1 => ?_, fun st lM H1 s1 => ?_, fun st lM => ?_⟩⟩
  · have e := hN z; subst e
    exact ⟨true, XF.exm .noGuest, fun _ a' ha' => by
      unfold t_law_comes_b1_exc
      exact told (x := .noGuest) (i := 2) rfl fun l hl => q _ l (same_new hl) upd_same, (fun z => nomatch z)⟩
  · rcases hY g e hG with ⟨_, e⟩ | ⟨z, _⟩
    · subst e
      exact ⟨true, XF.exm .twice, fun _ a' ha' => by
      unfold t_law_comes_b1_exc
      exact told (x := .twice) (i := 2) rfl fun l hl => q _ l (s1.trans (same_new hl)) upd_same, (fun z => nomatch z)⟩
    · exact absurd st z
  · rcases hY g e hG with ⟨z, _⟩ | ⟨_, _, e⟩
    · exact absurd z st
    · subst e
      exact ⟨true, XF.exm .full, fun _ a' ha' => by
      unfold t_law_comes_b1_exc
      exact told (x := .full) (i := 2) rfl fun l hl => q _ l (s1.trans (same_new hl)) upd_same, (fun z => nomatch z)⟩
  · exfalso
    rcases hY g e hG with ⟨z, _⟩ | ⟨_, z, _⟩
    · exact st z
    · omega
theorem len_law_goes (h : sp_law_goes K C vs H Q E) : vs.length = (["_law_house_here", "_law_guest"] : List Str).length := by
  unfold sp_law_goes at h
  repeat (obtain ⟨_, h⟩ := h)
  subst_vars; rfl
theorem pure_law_goes (XF : Facts K C) (XH : HF K C.cHouse) (h : sp_law_goes K C vs H Q E) : t_law_goes K C E { nx := fun _ H' => Q .non H', rt := Q } (start ["_law_house_here", "_law_guest", "_law_e"] vs) H := by
  obtain ⟨p, M, s, n, f, gs, x, t, k, rfl, hH, ht, hN, hY, q, q2⟩ := h
  obtain ⟨dx, hp⟩ := hH.hp
  show tSeq _ _ _ [some (.ref p), some x, none] H
  unfold tTryAs t_law_goes_b1_try
  unfold tSeq tDrop tMethW
  walk_at "run"
  refine ⟨_, _, hp, rfl, ?_⟩
  unfold sp_House_go
  refine ⟨p, M, s, n, f, gs, x, t, rfl, hH, ht, fun z => ?_, fun g e hG => ⟨fun st H1 s1 => ?_, fun st H1 s' n' f' qq o1 hs' h1 hq1 hq2 => ?_⟩⟩
  · have e := hN z; subst e
    exact ⟨true, XF.exm .noGuest, fun _ a' ha' => by
      unfold t_law_goes_b1_exc
      exact told (x := .noGuest) (i := 2) rfl fun l hl => q _ l (fun w => by rw [z] at w; cases w) (same_new hl) upd_same, (fun z => nomatch z)⟩
  · have e := hY g e hG st; subst e
    exact ⟨true, XF.exm .away, fun _ a' ha' => by
      unfold t_law_goes_b1_exc
      exact told (x := .away) (i := 2) rfl fun l hl => q _ l (fun _ g' e' z => by rw [e'] at e; cases e; exact st z) (s1.trans (same_new hl)) upd_same, (fun z => nomatch z)⟩
  · refine ⟨sizes (by decide), fun l hl => ?_⟩
    have sl := same_new (o := .lst []) hl
    exact q2 g e hG st _ s' n' f' l (fun b o hb hb2 ho => sl _ _ (o1 _ _ hb hb2 ho)) hs' (h1.same sl) upd_same
theorem len_law_looked_for (h : sp_law_looked_for K C vs H Q E) : vs.length = (["_law_house_here", "_law_guest"] : List Str).length := by
  unfold sp_law_looked_for at h
  repeat (obtain ⟨_, h⟩ := h)
  subst_vars; rfl
theorem pure_law_looked_for (XF : Facts K C) (XH : HF K C.cHouse) (h : sp_law_looked_for K C vs H Q E) : t_law_looked_for K C E { nx := fun _ H' => Q .non H', rt := Q } (start ["_law_house_here", "_law_guest", "_law_e"] vs) H := by
  obtain ⟨p, M, s, n, f, gs, x, t, rfl, hH, ht, hN, q⟩ := h
  obtain ⟨dx, hp⟩ := hH.hp
  show tSeq _ _ _ [some (.ref p), some x, none] H
  unfold tTryAs t_law_looked_for_b1_try
  unfold tSeq tDrop tMethW
  walk_at "run"
  refine ⟨_, _, hp, rfl, ?_⟩
  unfold sp_House_seat_of
  refine ⟨p, M, s, n, f, gs, x, t, rfl, hH, ht, fun z => ?_, fun g e hG => ?_⟩
  · exact ⟨true, XF.exm .noGuest, fun _ a' ha' => by
      unfold t_law_looked_for_b1_exc
      exact told (x := .noGuest) (i := 2) rfl fun l hl => q _ l (same_new hl) upd_same, (fun z => nomatch z)⟩
  · rw [hN] at hG; cases hG
theorem len_law_sits (h : sp_law_sits K C vs H Q E) : vs.length = (["_law_house_here", "_law_guest"] : List Str).length := by
  unfold sp_law_sits at h
  repeat (obtain ⟨_, h⟩ := h)
  subst_vars; rfl
theorem pure_law_sits (XF : Facts K C) (XH : HF K C.cHouse) (h : sp_law_sits K C vs H Q E) : t_law_sits K C E { nx := fun _ H' => Q .non H', rt := Q } (start ["_law_house_here", "_law_guest", "_law_at", "_law_seats"] vs) H := by
  obtain ⟨p, M, s, n, f, gs, g, rfl, hH, hG, ng, lM, q⟩ := h
  obtain ⟨dx, hp⟩ := hH.hp
  show tSeq _ _ _ [some (.ref p), some (.int g), none, none] H
  refine asg_any (fun v H' => ∃ (s' : Addr) (n' : Nat) (f' : Nat → Option Int) (qq : Nat), v = .int (qq : Nat) ∧ Off2 p s H H' ∧ (s' = s ∨ H s' = none) ∧ Hs C H' p M s' n' f' (gs ++ [g]) ∧ qq < n' ∧ f' qq = some g) (fun R r => ?_) ?_
  · walk_at "run"
    refine ⟨_, _, hp, rfl, ?_⟩
    unfold sp_House_come
    refine ⟨p, M, s, n, f, gs, _, .int, rfl, hH, rfl, (fun z => by rw [hG] at z; cases z), fun g' e _ => ?_⟩
    cases e
    exact ⟨fun z => absurd z ng, fun _ z => by omega, fun _ _ H' s' n' f' qq h1 h2 h3 h4 h5 => r _ _ ⟨s', n', f', qq, rfl, h1, h2, h3, h4, h5⟩⟩
  rintro _ H1 ⟨s', n', f', qq, rfl, o1, hs', h1, hq1, hq2⟩
  obtain ⟨dx1, hp1⟩ := h1.hp
  walk_at "nxt"
  refine asg_any (fun v H' => ∃ r, v = .ref r ∧ H1 r = none ∧ H' = upd H1 r (.lst (row n' f'))) (fun R r => ?_) ?_
  · walk_at "run"
    refine ⟨_, _, hp1, rfl, ?_⟩
    unfold sp_House_row
    exact ⟨p, M, s', n', f', _, rfl, h1.toHs0, fun e he => r _ _ ⟨e, rfl, he, rfl⟩⟩
  rintro _ _ ⟨r, rfl, hr, rfl⟩
  have s1 := same_new (o := .lst (row n' f')) hr
  obtain ⟨H2, eH2⟩ : ∃ H2, H2 = upd H1 r (.lst (row n' f')) := ⟨_, rfl⟩
  have hr1 : H2 r = some (.lst (row n' f')) := by rw [eH2, upd_same]
  rw [← eH2] at s1 ⊢
  have h2 := h1.same s1
  have hp2 := s1 _ _ hp1
  have hS : SqL K H2 r (row n' f') := .inl (.inl hr1)
  walk_at "nxt"
  walk_at "run"
  unfold sp_law_whole
  walk_at "run"
  have hn := hm_lt (n := n') (by have := h1.n2; omega)
  rw [if_pos (by omega)]
  refine ⟨_, .inl hS, ?_⟩
  rw [row_len, if_pos (by omega)]
  refine ⟨_, hS, _, row_at hq1, ?_⟩
  rw [hq2]
  walk_at "run"
  refine ⟨_, _, hp2, rfl, ?_⟩
  unfold sp_House_seat_of
  refine ⟨p, M, s', n', f', _, _, .int, rfl, h2.toHs0, rfl, (fun z => by rw [hG] at z; cases z), fun g' e _ H3 q2 s3 hq3 l3 => ?_⟩
  cases e
  have st := (Ring.loc_sits hn h1.S.P hq3 l3).mp ⟨qq, hq1, hq2⟩
  have eq := Ring.path_one hn h1.S.P hq3 hq1 st hq2
  subst eq
  rw [if_pos st]
  walk_at "run"
  exact q _ s' n' f' (fun b o hb hb2 ho => s3 _ _ (s1 _ _ (o1 _ _ hb hb2 ho))) hs' (h2.same s3)
theorem len_law_there (h : sp_law_there K C vs H Q E) : vs.length = (["_law_house_here", "_law_guests"] : List Str).length := by
  unfold sp_law_there at h
  repeat (obtain ⟨_, h⟩ := h)
  subst_vars; rfl
theorem pure_law_there (XF : Facts K C) (XH : HF K C.cHouse) (h : sp_law_there K C vs H Q E) : t_law_there K C E { nx := fun _ H' => Q .non H', rt := Q } (start ["_law_house_here", "_law_guests", "_law_many", "_law_found", "_law_guest"] vs) H := by
  obtain ⟨p, M, s, n, f, gs, a, rfl, hH, hA, q⟩ := h
  obtain ⟨dx, hp⟩ := hH.hp
  show tSeq _ _ _ [some (.ref p), some (.ref a), none, none, none] H
  refine asg_step (v := .int (gs.length : Nat)) (H' := H) (fun R r => ?_) ?_
  · walk_at "run"
    refine ⟨_, _, hp, rfl, ?_⟩
    unfold sp_House_many
    exact ⟨p, M, s, n, f, gs, rfl, hH, r⟩
  walk_at "nxt"
  refine asg_any (fun v H' => ∃ (l : Addr) (ys : List Int), v = .ref l ∧ Same H H' ∧ H' l = some (.lst (ys.map V.int)) ∧ ys.Perm gs ∧ ys.Pairwise (· ≤ ·)) (fun R r => ?_) ?_
  · walk_at "run"
    refine ⟨_, _, hp, rfl, ?_⟩
    unfold sp_House_guests
    exact ⟨p, M, s, n, f, gs, rfl, hH, fun H' l ys sm hl hys pm so => r _ _ ⟨l, ys, rfl, sm, hys, pm, so⟩⟩
  rintro _ H1 ⟨l, ys, rfl, s1, hys, pm, so⟩
  walk_at "nxt"
  refine if_step (b := false) (H' := H1) (fun R r => ?_) (fun z => nomatch z) (fun _ => ?_)
  · walk_at "run"
    unfold sp_law_whole
    refine ⟨_, .int, rfl, rfl, _, rfl, ?_⟩
    rw [if_neg (by simp [isWh])]
    refine ⟨_, .inl (s1.seq hA), ?_⟩
    rw [List.length_map, if_neg (by simp)]
    exact ⟨_, tyOf_at hys rfl, r⟩
  walk_at "nxt"
  refine for_lst (a := l) (xs := ys.map V.int) (H' := H1) (fun R r => ⟨_, rfl, r⟩) (.inl (.inl hys)) (fun k σ H' => H' = H1 ∧ ∃ x4, σ = [some (.ref p), some (.ref a), some (.int (gs.length : Nat)), some (.ref l), x4]) ⟨rfl, _, rfl⟩ ?_ ?_ ?_
  · rintro k σ H' _ ⟨rfl, _⟩
    exact .inl (.inl hys)
  · rintro k x σ H' hk ⟨rfl, x4, rfl⟩
    obtain ⟨y, _, rfl⟩ := List.mem_map.mp (List.mem_of_getElem? hk)
    unfold t_law_there_b1
    dsimp only [List.set_cons_zero, List.set_cons_succ]
    refine if_step (b := false) (H' := H') (fun R r => ?_) (fun z => nomatch z) (fun _ => ⟨rfl, _, rfl⟩)
    walk_at "run"
    unfold sp_law_whole
    walk_at "run"
    exact r
  rintro σ H' ⟨rfl, x4, rfl⟩
  walk_at "nxt"
  refine ret_any (fun v H2 => Same H' H2 ∧ v = .bl true) (fun R r => ?_) ?_
  · walk_at "run"
    unfold rSortedI
    refine ⟨a, gs, rfl, s1.seq hA, fun l2 p2 pm2 so2 hp2 => ?_⟩
    have e := sorted_one pm pm2 so so2 (List.Perm.refl _)
    subst e
    exact eqD_lst ((same_new hp2).seq (.inl (.inl hys))) (.inl (.inl upd_same)) ints_flD (r _ _ ⟨same_new hp2, rfl⟩)
  rintro _ H2 ⟨s2, rfl⟩
  exact q _ (s1.trans s2)
theorem len_law_no_guest (h : sp_law_no_guest K C vs H Q E) : vs.length = (["_law_house_here", "_law_thing"] : List Str).length := by
  unfold sp_law_no_guest at h
  repeat (obtain ⟨_, h⟩ := h)
  subst_vars; rfl
theorem pure_law_no_guest (XF : Facts K C) (XH : HF K C.cHouse) (h : sp_law_no_guest K C vs H Q E) : t_law_no_guest K C E { nx := fun _ H' => Q .non H', rt := Q } (start ["_law_house_here", "_law_thing", "_law_due"] vs) H := by
  obtain ⟨p, M, s, n, f, gs, x, t, rfl, hH, ht, hN, q⟩ := h
  show tSeq _ _ _ [some (.ref p), some x, none] H
  refine asg_any (fun v H' => Same H H' ∧ ∃ l, v = .ref l ∧ H' l = some (.lst (kindsL .noGuest))) (fun R r => ?_) ?_
  · walk_at "run"
    unfold sp_law_only
    exact ⟨.noGuest, rfl, fun H' l sm hl => r _ _ ⟨sm, l, rfl, hl⟩⟩
  rintro _ H1 ⟨s1, l, rfl, hl⟩
  have h1 := hH.same s1
  walk_at "nxt"
  refine ret_any (fun v H2 => Same H1 H2 ∧ v = .bl true) (fun R r => ?_) ?_
  · walk_at "run"
    unfold sp_law_comes
    refine ⟨p, M, s, n, f, gs, x, t, .noGuest, rfl, h1, tyOf_same ht s1, (fun _ => rfl), (fun g e hG => by rw [hN] at hG; cases hG), fun H2 l2 s2 hl2 => ?_⟩
    refine eqD_lst (.inl (.inl hl2)) (.inl (.inl (s2 _ _ hl))) kinds_flD ⟨true, rfl, ?_⟩
    rw [if_pos rfl]
    unfold sp_law_goes
    have h2 := h1.same s2
    have s12 := s1.trans s2
    refine ⟨p, M, s, n, f, gs, x, t, .noGuest, rfl, h2, tyOf_same ht s12, (fun _ => rfl), (fun g e hG => by rw [hN] at hG; cases hG), fun H3 l3 _ s3 hl3 => ?_, fun g e hG => by rw [hN] at hG; cases hG⟩
    refine eqD_lst (.inl (.inl hl3)) (.inl (.inl (s3 _ _ (s2 _ _ hl)))) kinds_flD ⟨true, rfl, ?_⟩
    rw [if_pos rfl]
    unfold sp_law_looked_for
    refine ⟨p, M, s, n, f, gs, x, t, rfl, (h2.same s3).toHs0, tyOf_same ht (s12.trans s3), hN, fun H4 l4 s4 hl4 => ?_⟩
    exact eqD_lst (.inl (.inl hl4)) (.inl (.inl (s4 _ _ (s3 _ _ (s2 _ _ hl))))) kinds_flD (r _ _ ⟨s2.trans (s3.trans s4), rfl⟩)
  rintro _ H2 ⟨s2, rfl⟩
  exact q _ (s1.trans s2)
theorem len_law_most (h : sp_law_most K C vs H Q E) : vs.length = (["_law_cell"] : List Str).length := by
  unfold sp_law_most at h
  repeat (obtain ⟨_, h⟩ := h)
  subst_vars; rfl
theorem pure_law_most (XF : Facts K C) (XH : HF K C.cHouse) (h : sp_law_most K C vs H Q E) : t_law_most K C E { nx := fun _ H' => Q .non H', rt := Q } (start ["_law_cell"] vs) H := by
  obtain ⟨c, rfl, q⟩ := h
  show tSeq _ _ _ [some (.int c)] H
  refine if_step (b := decide (c % 4 = 1)) (H' := H) (fun R r => ?_) (fun e => ?_) (fun e => ?_)
  · walk_at "run"; simpa using r
  · exact q 96 _ (Same.refl _) (by omega) (fun _ => rfl)
  have e1 := of_decide_eq_false e
  walk_at "nxt"
  refine if_step (b := decide (c % 4 = 2) && decide (c / 4 % 2 = 1)) (H' := H) (fun R r => ?_) (fun e => ?_) (fun e => ?_)
  · walk_at "run"
    by_cases e : c % 4 = 2
    · rw [if_pos (by simpa using e)]; simpa [e] using r
    · rw [if_neg (by simpa using e)]; simpa [e] using r
  · refine ret_any (fun v H' => Same H H' ∧ ∃ M : Nat, M ≤ 192 ∧ v = .int M) (fun R r => ?_) ?_
    · walk_at "run"
      refine ⟨sizes (by decide), fun l hl => ⟨_, .inl (.inl upd_same), ?_⟩⟩
      have : c / 8 % 6 = 0 ∨ c / 8 % 6 = 1 ∨ c / 8 % 6 = 2 ∨ c / 8 % 6 = 3 ∨ c / 8 % 6 = 4 ∨ c / 8 % 6 = 5 := by omega
      rcases this with z | z | z | z | z | z <;> rw [z]
      · exact ⟨_, rfl, r _ _ ⟨same_new hl, 97, by omega, rfl⟩⟩
      · exact ⟨_, rfl, r _ _ ⟨same_new hl, 49, by omega, rfl⟩⟩
      · exact ⟨_, rfl, r _ _ ⟨same_new hl, 25, by omega, rfl⟩⟩
      · exact ⟨_, rfl, r _ _ ⟨same_new hl, 13, by omega, rfl⟩⟩
      · exact ⟨_, rfl, r _ _ ⟨same_new hl, 7, by omega, rfl⟩⟩
      · exact ⟨_, rfl, r _ _ ⟨same_new hl, 192, by omega, rfl⟩⟩
    rintro _ H' ⟨sm, M, hM, rfl⟩
    exact q M H' sm hM (fun z => absurd z e1)
  walk_at "nxt"
  refine if_step (b := decide (c % 4 = 2)) (H' := H) (fun R r => ?_) (fun e => ?_) (fun e => ?_)
  · walk_at "run"; simpa using r
  · walk_at "run"
    have := q (c / 8 % 193).toNat _ (Same.refl _) (by omega) (fun z => absurd z e1)
    rw [show ((c / 8 % 193).toNat : Int) = c / 8 % 193 by omega] at this
    exact this
  walk_at "nxt"
  walk_at "run"
  have := q (c / 4 % 13).toNat _ (Same.refl _) (by omega) (fun z => absurd z e1)
  rw [show ((c / 4 % 13).toNat : Int) = c / 4 % 13 by omega] at this
  exact this
theorem len_law_all (h : sp_law_all K C vs H Q E) : vs.length = (["_law_cell", "_law_first", "_law_limit"] : List Str).length := by
  unfold sp_law_all at h
  repeat (obtain ⟨_, h⟩ := h)
  subst_vars; rfl
theorem pure_law_all (XF : Facts K C) (XH : HF K C.cHouse) (h : sp_law_all K C vs H Q E) : t_law_all K C E { nx := fun _ H' => Q .non H', rt := Q } (start ["_law_cell", "_law_first", "_law_limit", "_law_step", "_law_crowd", "_law_k"] vs) H := by
  obtain ⟨c, b, M, rfl, b0, b1, hM, q⟩ := h
  show tSeq _ _ _ [some (.int c), some (.int b), some (.int M), none, none, none] H
  obtain ⟨y, hy⟩ : ∃ y, y = c / 4 % 100000000000000000000000000000000000000000000000000 := ⟨_, rfl⟩
  have y0 : 0 ≤ y ∧ y < 100000000000000000000000000000000000000000000000000 := by omega
  -- the step
  refine asg_any (fun v H' => Same H H' ∧ ∃ st : Int, v = .int st ∧ 0 ≤ st ∧ st ≤ 100000000000000000000000000000000000000000000000000 ∧ (c % 4 ≠ 1 → 0 < st)) (fun R r => ?_) ?_
  · walk_at "run"
    rw [← hy]
    refine ⟨sizes (by decide), fun p hp => ⟨_, .inl (.inl upd_same), ?_⟩⟩
    have sm := same_new (o := .lst [V.int 65536, V.int 0, V.int 1, V.int (1 + y)]) hp
    have : c % 4 = 0 ∨ c % 4 = 1 ∨ c % 4 = 2 ∨ c % 4 = 3 := by omega
    rcases this with z | z | z | z <;> rw [z]
    · exact ⟨_, rfl, r _ _ ⟨sm, _, rfl, by omega, by omega, fun _ => by omega⟩⟩
    · exact ⟨_, rfl, r _ _ ⟨sm, _, rfl, by omega, by omega, fun w => by omega⟩⟩
    · exact ⟨_, rfl, r _ _ ⟨sm, _, rfl, by omega, by omega, fun _ => by omega⟩⟩
    · exact ⟨_, rfl, r _ _ ⟨sm, _, rfl, by omega, by omega, fun _ => by omega⟩⟩
  rintro _ H1 ⟨s1, st, rfl, st0, st1, st2⟩
  refine nxt_seq ?_
  obtain ⟨k, hk⟩ : ∃ k, k = 1 + c / 4 % 8 := ⟨_, rfl⟩
  refine asg_step (v := .int k) (H' := H1) (fun R r => ?_) ?_
  · walk_at "run"; rw [← hk]; exact r
  refine nxt_seq ?_
  -- the crowd and the step, once more
  obtain ⟨z, hz⟩ : ∃ z, z = c / 4 % 10000000000000000000000000000000000000000 := ⟨_, rfl⟩
  have z0 : 0 ≤ z ∧ z < 10000000000000000000000000000000000000000 := by omega
  refine if_joinE (b := decide ((M : Int) ≤ 24)) (H' := H1) (fun σ' H' => H1 = H' ∧ ∃ (st k : Int), 0 ≤ st ∧ st ≤ 100000000000000000000000000000000000000000000000000 ∧ (c % 4 ≠ 1 → 0 < st) ∧ 1 ≤ k ∧ k ≤ 25 ∧ σ' = [some (.int c), some (.int b), some (.int M), some (.int st), some (.int k), none]) (fun R r => ?_) (fun e D _ _ _ nx => ?_) (fun e D _ _ _ nx => ?_) ?_
  · walk_at "run"; exact r
  · refine asg_step (v := .int 25) (H' := H1) (fun R r => r) ?_
    exact nx _ _ ⟨rfl, st, 25, st0, st1, st2, by omega, by omega, rfl⟩
  · refine if_step (b := decide (c % 4 = 3)) (H' := H1) (fun R r => ?_) (fun e => ?_) (fun e => ?_)
    · walk_at "run"; simpa using r
    · refine asg_step (v := .int (3 * 65536 + 4294967296 * (1 + z))) (H' := H1) (fun R r => ?_) ?_
      · walk_at "run"; rw [← hz]; exact r
      exact nx _ _ ⟨rfl, _, k, by omega, by omega, fun _ => by omega, by omega, by omega, rfl⟩
    · exact nx _ _ ⟨rfl, st, k, st0, st1, st2, by omega, by omega, rfl⟩
  rintro _ _ ⟨rfl, st', k', st0', st1', st2', k0, k1, rfl⟩
  clear st0 st1 st2 hk hy hz y0 z0
  refine nxt_seq ?_
  -- of one home
  have fin : ∀ (F : Nat → Int) (D : Ends) (te : TE), D.rt = Q → (∀ i, i < M + 1 → isG (.int (F i)) = true) → (∀ i j, i < j → j < M + 1 → F i ≠ F j) → (∀ i, i < M + 1 → ∀ (H2 : Hp) (R : VK), R (.int (F i)) H2 → te [some (.int c), some (.int b), some (.int M), some (.int st'), some (.int k'), some (.int (i : Nat))] H2 R) →
      tRet (tLc (iRng1 (tCons (tOp rAdd (tVar 2) (tC (.int 1))) tNil)) (gName 5) tYes te [5]) D [some (.int c), some (.int b), some (.int M), some (.int st'), some (.int k'), none] H1 := fun F D te hD hg hd hte => by
    refine ret_any (fun v H' => Same H1 H' ∧ ∃ l, v = .ref l ∧ H1 l = none ∧ H' l = some (.lst (((List.range (M + 1)).map F).map V.int))) (fun R r => ?_) ?_
    · refine lc_rng1 (n := M + 1) (j := (M : Int) + 1) (H' := H1) (fun R r => ?_) (by omega) (by omega) (fun x => rfl) (fun i acc => acc = ((List.range i).map F).map V.int) rfl ?_ ?_
      · walk_at "run"; exact r
      · rintro i acc H2 hi sm rfl
        exact ⟨true, fun R r => r, fun _ => ⟨.int (F i), fun R r => hte i hi H2 R r, range_next.symm⟩, fun z => nomatch z⟩
      · rintro D H3 acc hD sm ha rfl hl
        exact r _ _ ⟨sm, D, rfl, hD, ha⟩
    rintro _ H2 ⟨s2, l, rfl, hf, hl⟩
    rw [hD]
    exact q H2 l _ (s1.trans s2) (s1.free hf) hl (by rw [List.length_map, List.length_range]) (range_g hd) fun x hx => by
      obtain ⟨i, hi, rfl⟩ := List.mem_map.mp hx
      exact hg i (List.mem_range.mp hi)
  refine if_step (b := decide (c % 4 = 1)) (H' := H1) (fun R r => ?_) (fun e => ?_) (fun e => ?_)
  · walk_at "run"; simpa using r
  · have fact : ∀ i : Nat, i < M + 1 → ∃ a r : Int, a = (i : Int) / k' ∧ r = (i : Int) % k' ∧ (i : Int) = k' * a + r ∧ 0 ≤ r ∧ r < k' ∧ 0 ≤ a ∧ 0 ≤ k' * a ∧ k' * a ≤ i := fun i hi => by
      have h1 := Int.mul_ediv_add_emod (i : Int) k'
      have h2 := Int.emod_nonneg (i : Int) (b := k') (by omega)
      have h3 := Int.emod_lt_of_pos (i : Int) (b := k') (by omega)
      have h4 := Int.ediv_nonneg (a := (i : Int)) (b := k') (by omega) (by omega)
      have h5 := Int.mul_nonneg (show 0 ≤ k' by omega) h4
      exact ⟨_, _, rfl, rfl, h1.symm, h2, h3, h4, h5, by omega⟩
    refine fin (fun i => b + 65536 * k' * ((i : Int) / k') + 4294967296 * ((i : Int) % k')) _ _ rfl (fun i hi => ?_) (fun i j hij hj => ?_) (fun i hi H2 R r => ?_)
    · obtain ⟨a, r, ea, er, h1, h2, h3, h4, h5, h6⟩ := fact i hi
      rw [← ea, ← er, Int.mul_assoc]
      exact isG_yes (by omega) (by omega)
    · obtain ⟨a, r, ea, er, h1, h2, h3, h4, h5, h6⟩ := fact i (by omega)
      obtain ⟨a', r', ea', er', h1', h2', h3', h4', h5', h6'⟩ := fact j hj
      rw [← ea, ← er, ← ea', ← er', Int.mul_assoc, Int.mul_assoc]
      omega
    · walk_at "run"
      exact ⟨by omega, by omega, .inl ⟨by omega, by omega⟩, by omega, r⟩
  refine nx_at ?_
  refine fin (fun i => b + (i : Int) * st') _ _ rfl (fun i hi => ?_) (fun i j hij hj => ?_) (fun i hi H2 R r => ?_)
  · have h1 := Int.mul_nonneg (show (0 : Int) ≤ i by omega) st0'
    have h2 := Int.mul_le_mul_of_nonneg_right (show (i : Int) ≤ 192 by omega) st0'
    exact isG_yes (by omega) (by omega)
  · have := Int.mul_lt_mul_of_pos_right (show (i : Int) < j by omega) (st2' (of_decide_eq_false e))
    omega
  · walk_at "run"
    exact ⟨.inl ⟨by omega, by omega⟩, r⟩
theorem len_law_house (h : sp_law_house K C vs H Q E) : vs.length = (["_law_cell", "_law_limit"] : List Str).length := by
  unfold sp_law_house at h
  repeat (obtain ⟨_, h⟩ := h)
  subst_vars; rfl
theorem pure_law_house (XF : Facts K C) (XH : HF K C.cHouse) (h : sp_law_house K C vs H Q E) : t_law_house K C E { nx := fun _ H' => Q .non H', rt := Q } (start ["_law_cell", "_law_limit"] vs) H := by
  obtain ⟨c, M, rfl, hM, h96, q⟩ := h
  show tSeq _ _ _ [some (.int c), some (.int M)] H
  have key : ∀ x dx, H x = none → H dx = none → dx ≠ x →
      sp_House_init K C [.ref x, .int M] (upd (upd H dx (.own x)) x (.ins C.cHouse dx [])) (fun v H2 => v = .non ∧ Q (.ref x) H2) E0 := fun x dx hx hdx hne => by
    have sm : Same H (upd (upd H dx (.own x)) x (.ins C.cHouse dx [])) := fun b o hb => by
      rw [upd_ne (fun z => by rw [z, hx] at hb; cases hb), upd_ne (fun z => by rw [z, hdx] at hb; cases hb)]; exact hb
    unfold sp_House_init
    refine ⟨x, dx, _, .int, rfl, upd_same, rfl, fun M' e hM' H' s o hs h' => ?_, fun z => ?_⟩
    · cases e
      exact ⟨rfl, q _ x s (fun b o' hb => o b o' (fun z => by rw [z, hx] at hb; cases hb) (sm _ _ hb)) h' hx (sm.free hs)⟩
    · exfalso
      have := z M rfl
      omega
  refine if_step (b := decide (c % 4 = 1)) (H' := H) (fun R r => ?_) (fun e => ?_) (fun e => ?_)
  · walk_at "run"; simpa using r
  · have e' := h96 (of_decide_eq_true e)
    subst e'
    unfold tRet tMake
    walk_at "run"
    exact key
  walk_at "nxt"
  refine if_step (b := decide (c % 4 = 3)) (H' := H) (fun R r => ?_) (fun e => ?_) (fun e => ?_)
  · walk_at "run"; simpa using r
  · unfold tRet tMakeK
    walk_at "run"
    exact key
  · walk_at "nxt"
    unfold tRet tMake
    walk_at "run"
    exact key
theorem len_law (h : sp_law K C vs H Q E) : vs.length = (["_law_script"] : List Str).length := by
  unfold sp_law sp_law0 at h
  repeat (obtain ⟨_, h⟩ := h)
  subst_vars; rfl
theorem pure_law (XF : Facts K C) (XH : HF K C.cHouse) (h : sp_law K C vs H Q E) : t_law K C E { nx := fun _ H' => Q .non H', rt := Q } (start ["_law_script", "_law_limit", "_law_house_here", "_law_guests", "_law_thing", "_law_last", "_law_guest", "_law_seats", "_law_due", "_law_gone", "_law_left"] vs) H := by
  obtain ⟨a, ns, rfl, hS, hl, q⟩ := h
  show tSeq _ _ _ [some (.ref a), none, none, none, none, none, none, none, none, none, none] H
  -- for how many
  refine asg_any (fun v H' => ∃ M : Nat, v = .int M ∧ Same H H' ∧ M ≤ 192 ∧ (cellI ns 0 % 4 = 1 → M = 96)) (fun R r => ?_) ?_
  · walk_at "run"; unfold sp_law_cell_at; walk_at "run"
    refine ⟨ns, hS, ?_⟩
    unfold sp_law_most
    exact ⟨_, rfl, fun M H' sm h1 h2 => r _ _ ⟨M, rfl, sm, h1, h2⟩⟩
  rintro _ H1 ⟨M, rfl, s1, hM, h96⟩
  walk_at "nxt"
  -- what is no size
  refine if_ext (b := false) (fun R r => ?_) (fun z => nomatch z) (fun _ H2 s2 => ?_)
  · walk_at "run"; unfold sp_law_cell_at; walk_at "run"
    refine ⟨ns, s1.seq hS, ?_⟩
    unfold sp_law_size
    refine ⟨_, rfl, fun H2 x t s2 ht hb => ?_⟩
    unfold sp_law_made
    refine ⟨x, t, rfl, ht, hb, fun H3 l s3 hl => ?_⟩
    unfold sp_law_only
    refine ⟨.noSize, rfl, fun H4 l2 s4 hl2 => ?_⟩
    exact neD_lst (.inl (.inl (s4 _ _ hl))) (.inl (.inl hl2)) kinds_flD ⟨_, rfl, r _ (s2.trans (s3.trans s4))⟩
  walk_at "nxt"
  -- the house
  refine asg_any (fun v H' => ∃ (p s : Addr), v = .ref p ∧ Same H2 H' ∧ Hs C H' p M s 8 (fun _ => none) []) (fun R r => ?_) ?_
  · walk_at "run"; unfold sp_law_cell_at; walk_at "run"
    refine ⟨ns, s2.seq (s1.seq hS), ?_⟩
    unfold sp_law_house
    exact ⟨_, M, rfl, hM, h96, fun H' p s sm h _ _ => r _ _ ⟨p, s, rfl, sm, h⟩⟩
  rintro _ H3 ⟨p, s, rfl, s3, hH3⟩
  have hS3 := s3.seq (s2.seq (s1.seq hS))
  walk_at "nxt"
  -- the guests
  refine asg_any (fun v H' => ∃ (l : Addr) (gs : List Int), v = .ref l ∧ Same H3 H' ∧ H3 l = none ∧ H' l = some (.lst (gs.map V.int)) ∧ gs.length = M + 1 ∧ gs.Nodup ∧ ∀ x ∈ gs, isG (.int x) = true) (fun R r => ?_) ?_
  · walk_at "run"; unfold sp_law_cell_at; walk_at "run"
    refine ⟨ns, hS3, ns, hS3, ?_⟩
    unfold sp_law_all
    exact ⟨_, _, M, rfl, by omega, by omega, hM, fun H' l gs sm h0 h1 h2 h3 h4 => r _ _ ⟨l, gs, rfl, sm, h0, h1, h2, h3, h4⟩⟩
  rintro _ H4 ⟨l, gs, rfl, s4, fl, hl4, len, nd, hg⟩
  have hH4 := hH3.same s4
  have hS4 := s4.seq hS3
  obtain ⟨G, g, rfl⟩ : ∃ G g, gs = G ++ [g] := by
    rcases List.eq_nil_or_concat gs with z | ⟨G, g, z⟩
    · rw [z] at len; cases len
    · exact ⟨G, g, by rw [z, List.concat_eq_append]⟩
  have lenG : G.length = M := by rw [List.length_append] at len; simpa using len
  have ndG : G.Nodup := (List.nodup_append.mp nd).1
  have gG : g ∉ G := fun z => (List.nodup_append.mp nd).2.2 g z g (by simp) rfl
  have hgG : ∀ x ∈ G, isG (.int x) = true := fun x z => hg x (List.mem_append_left _ z)
  have hg1 : isG (.int g) = true := hg g (by simp)
  walk_at "nxt"
  -- what is no guest
  refine asg_any (fun v H' => ∃ t, Same H4 H' ∧ Odd H' s v t ∧ isG v = false ∧ ∀ b, v = .ref b → H4 b = none) (fun R r => ?_) ?_
  · walk_at "run"; unfold sp_law_cell_at; walk_at "run"
    refine ⟨ns, hS4, ?_⟩
    unfold sp_law_odd
    exact ⟨_, rfl, fun H' x t sm h1 h2 h3 => r _ _ ⟨t, sm, ⟨h1, fun b e z => by have := h3 b e; rw [z, hH4.hs] at this; cases this⟩, h2, h3⟩⟩
  rintro x H5 ⟨t, s5, od5, hN, fx⟩
  have hH5 := hH4.same s5
  have hS5 := s5.seq hS4
  have hl5 := s5 _ _ hl4
  walk_at "nxt"
  -- the last one
  refine asg_step (v := .int g) (H' := upd H5 l (.lst (G.map V.int))) (fun R r => ?_) ?_
  · walk_at "run"
    refine ⟨ty_list (.inl (.inl hl5)), l, _, .int g, rfl, rfl, hl5, ?_, ?_⟩
    · rw [List.map_append]; simp
    · rw [List.map_append]; simpa using r
  have lne := ints_ne hH5.toHs0 hl5
  obtain ⟨H6, eH6⟩ : ∃ H6, H6 = upd H5 l (.lst (G.map V.int)) := ⟨_, rfl⟩
  have hl6 : SqL K H6 l (G.map V.int) := .inl (.inl (by rw [eH6, upd_same]))
  have hH6 : Hs C H6 p M s 8 (fun _ => none) [] := by
    obtain ⟨dx, hp⟩ := hH5.hp
    exact ⟨⟨⟨dx, by rw [eH6, upd_ne lne.1.symm]; exact hp⟩, by rw [eH6, upd_ne lne.2.symm]; exact hH5.hs, hH5.S, hH5.n2, hH5.n3⟩, hH5.rm, hH5.lM, hH5.M3⟩
  have hS6 : SqL K H6 a (ns.map V.int) := by
    rcases hS3 with (w | ⟨o, w⟩) | w
    · exact .inl (.inl (by rw [eH6, upd_ne (fun z => by rw [z, fl] at w; cases w)]; exact s5 _ _ (s4 _ _ w)))
    · exact .inl (.inr ⟨o, by rw [eH6, upd_ne (fun z => by rw [z, fl] at w; cases w)]; exact s5 _ _ (s4 _ _ w)⟩)
    · exact .inr w
  have od6 : Odd H6 s x t := od5.off (l := l) (by rw [eH6]; exact Off.upd) fun b e z => by have := fx b e; rw [z, hl4] at this; cases this
  rw [← eH6]
  walk_at "nxt"
  -- they come
  refine for_lst (a := l) (xs := G.map V.int) (H' := H6) (fun R r => ⟨_, rfl, r⟩) hl6 (fun i σ H' => ∃ (s : Addr) (n : Nat) (f : Nat → Option Int) (x6 : Option V), σ = [some (.ref a), some (.int M), some (.ref p), some (.ref l), some x, some (.int g), x6, none, none, none, none] ∧ Hs C H' p M s n f (G.take i) ∧
    SqL K H' l (G.map V.int) ∧ SqL K H' a (ns.map V.int) ∧ Odd H' s x t) ⟨s, 8, _, _, rfl, hH6, hl6, hS6, od6⟩ ?_ ?_ ?_
  · rintro i σ H' _ ⟨s, n, f, x6, rfl, h1, h2, h3, h4⟩
    exact h2
  · rintro i y σ H' hi ⟨s, n, f, x6, rfl, h1, h2, h3, h4⟩
    have hlt := (List.getElem?_eq_some_iff.mp hi).1
    rw [List.length_map] at hlt
    rw [List.getElem?_map, List.getElem?_eq_getElem hlt] at hi
    obtain rfl : V.int G[i] = y := Option.some.inj hi
    unfold t_law_b1
    dsimp only [List.set_cons_zero, List.set_cons_succ]
    refine if_any (b := false) (fun H2 => ∃ (s' : Addr) (n' : Nat) (f' : Nat → Option Int), Off2 p s H' H2 ∧ (s' = s ∨ H' s' = none) ∧ Hs C H2 p M s' n' f' (G.take i ++ [G[i]])) (fun R r => ?_) (fun z => nomatch z) ?_
    · walk_at "run"
      unfold sp_law_sits
      exact ⟨p, M, s, n, f, _, _, rfl, h1, hgG _ (List.getElem_mem hlt), take_new ndG hlt, by rw [List.length_take]; omega, fun H2 s' n' f' o e hh => ⟨_, rfl, r _ ⟨s', n', f', o, e, hh⟩⟩⟩
    rintro _ H2 ⟨s', n', f', o, e, hh⟩
    rw [← take_next hlt] at hh
    exact ⟨s', n', f', _, rfl, hh, ints_off2 h1.toHs0 o h2, ints_off2 h1.toHs0 o h3, h4.off2 h1.toHs0 o e⟩
  rintro σ H7 ⟨s, n, f, x6, rfl, h7, l7, a7, od7⟩
  rw [List.length_map, List.take_length] at h7
  clear hH3 hH4 hH5 hH6 od5 od6 lne hS5 hS4 hS3 hS hl4 hl5 hl6 hS6 s1 s2 s3 s4 s5 eH6
  obtain ⟨dx7, hp7⟩ := h7.hp
  have n2 := h7.n2
  have hn := hm_lt (n := n) (by omega)
  walk_at "nxt"
  refine asg_any (fun v H' => ∃ r, v = .ref r ∧ H7 r = none ∧ H' = upd H7 r (.lst (row n f))) (fun R r => ?_) ?_
  · walk_at "run"
    refine ⟨_, _, hp7, rfl, ?_⟩
    unfold sp_House_row
    exact ⟨p, M, s, n, f, G, rfl, h7.toHs0, fun e he => r _ _ ⟨e, rfl, he, rfl⟩⟩
  rintro _ _ ⟨r, rfl, hr, rfl⟩
  have s8 := same_new (o := .lst (row n f)) hr
  obtain ⟨H8, eH8⟩ : ∃ H8, H8 = upd H7 r (.lst (row n f)) := ⟨_, rfl⟩
  have hr8 : H8 r = some (.lst (row n f)) := by rw [eH8, upd_same]
  rw [← eH8] at s8 ⊢
  have hrp : r ≠ p := fun z => by rw [z, hp7] at hr; cases hr
  have hrs : r ≠ s := fun z => by rw [z, h7.hs] at hr; cases hr
  have h8 := h7.same s8
  have l8 := s8.seq l7
  walk_at "nxt"
  refine if_ext (b := false) (fun R r1 => ?_) (fun z => nomatch z) (fun _ H9 s9 => ?_)
  · walk_at "run"
    unfold sp_law_settled
    exact ⟨r, l, n, f, G, rfl, hr8, l8, h8.n3, h8.S.P, h8.S.e (by omega), h8.S.perm (by omega), h8.rm, by omega, fun H' s' => ⟨_, rfl, r1 _ s'⟩⟩
  have h9 := h8.same s9
  walk_at "nxt"
  refine asg_any (fun v H' => Same H9 H' ∧ ∃ d, v = .ref d ∧ H' d = some (.lst [.bl true, .bl true])) (fun R r1 => ?_) ?_
  · walk_at "run"
    unfold sp_law_goes
    refine ⟨p, M, s, n, f, G, _, .int, .away, rfl, h9, rfl, (fun z => by rw [hg1] at z; cases z), (fun _ _ _ _ => rfl), fun H2 l2 _ s2 hl2 => ?_, fun g' e _ st => by cases e; exact absurd st gG⟩
    unfold sp_law_only
    refine ⟨.away, rfl, fun H3 l3 s3 hl3 => ?_⟩
    refine eqD_lst (.inl (.inl (s3 _ _ hl2))) (.inl (.inl hl3)) kinds_flD ?_
    unfold sp_law_comes
    refine ⟨p, M, s, n, f, G, _, .int, .full, rfl, (h9.same s2).same s3, rfl, (fun z => by rw [hg1] at z; cases z), (fun g' e _ => by cases e; exact .inr ⟨gG, by omega, rfl⟩), fun H4 l4 s4 hl4 => ?_⟩
    refine ⟨.full, rfl, fun H5 l5 s5 hl5 => ?_⟩
    refine eqD_lst (.inl (.inl (s5 _ _ hl4))) (.inl (.inl hl5)) kinds_flD ?_
    exact ⟨sizes (by decide), fun d hd => r1 _ _ ⟨s2.trans (s3.trans (s4.trans (s5.trans (same_new hd)))), d, rfl, upd_same⟩⟩
  rintro _ H10 ⟨s10, d, rfl, hd10⟩
  have h10 := h9.same s10
  have od10 := ((od7.same s8).same s9).same s10
  walk_at "nxt"
  refine if_ext (b := false) (fun R r1 => ?_) (fun z => nomatch z) (fun _ H11 s11 => ?_)
  · walk_at "run"
    refine ⟨_, .inl (.inl (.inl hd10)), rfl, rfl, ?_⟩
    rw [show inV (.bl false) [V.bl true, V.bl true] = false from rfl, if_neg (by decide)]
    unfold sp_law_no_guest
    exact ⟨p, M, s, n, f, G, x, t, rfl, h10, od10.1, hN, fun H' s' => ⟨_, rfl, r1 _ s'⟩⟩
  have h11 := h10.same s11
  obtain ⟨dx11, hp11⟩ := h11.hp
  have hr11 := s11 _ _ (s10 _ _ (s9 _ _ hr8))
  have l11 := s11.seq (s10.seq (s9.seq l8))
  have a11 := s11.seq (s10.seq (s9.seq (s8.seq a7)))
  walk_at "nxt"
  refine if_ext (b := false) (fun R r1 => ?_) (fun z => nomatch z) (fun _ H12 s12 => ?_)
  · walk_at "run"
    refine ⟨_, _, hp11, rfl, ?_⟩
    unfold sp_House_row
    refine ⟨p, M, s, n, f, G, rfl, h11.toHs0, fun l2 hl2 => ?_⟩
    have t1 := same_new (o := .lst (row n f)) hl2
    refine neD_lst (.inl (.inl upd_same)) (.inl (.inl (t1 _ _ hr11))) row_flD ⟨false, rfl, ?_⟩
    rw [if_neg (by decide)]
    refine ⟨_, _, t1 _ _ hp11, rfl, ?_⟩
    unfold sp_House_seat_of
    refine ⟨p, M, s, n, f, G, _, .int, rfl, (h11.same t1).toHs0, rfl, (fun z => by rw [hg1] at z; cases z), fun g' e _ H2 q2 t2 hq2 lc2 => ?_⟩
    cases e
    have ng : ¬ f q2 = some g := fun z => gG ((h11.S.st g).mp ⟨q2, hq2, z⟩)
    rw [if_neg ng, if_neg (fun z => z rfl)]
    unfold sp_law_there
    exact ⟨p, M, s, n, f, G, l, rfl, ((h11.same t1).same t2).toHs0, t2.seq (t1.seq l11), fun H' s' => ⟨_, rfl, r1 _ (t1.trans (t2.trans s'))⟩⟩
  have h12 := h11.same s12
  walk_at "nxt"
  refine if_step (b := decide (M = 0)) (H' := H12) (fun R r1 => ?_) (fun e => ?_) (fun e => ?_)
  · walk_at "run"
    rw [show decide ((M : Int) = 0) = decide (M = 0) from decide_eq_decide.mpr (by omega)]; exact r1
  · walk_at "run"; exact q _
  have M0 : 0 < M := by have := of_decide_eq_false e; omega
  have a12 := s12.seq a11
  have l12 := s12.seq l11
  have hr12 := s12 _ _ hr11
  obtain ⟨dx12, hp12⟩ := h12.hp
  walk_at "nxt"
  obtain ⟨j, hj, hje⟩ : ∃ j : Nat, j < G.length ∧ (j : Int) = cellI ns 5 % (M : Int) := by
    have h1 := Int.emod_lt_of_pos (cellI ns 5) (b := (M : Int)) (by omega)
    have h2 := Int.emod_nonneg (cellI ns 5) (b := (M : Int)) (by omega)
    exact ⟨(cellI ns 5 % (M : Int)).toNat, by omega, by omega⟩
  obtain ⟨o, ho⟩ : ∃ o, o = G[j] := ⟨_, rfl⟩
  have oG : o ∈ G := by rw [ho]; exact List.getElem_mem hj
  have ho1 := hgG o oG
  refine asg_step (v := .int o) (H' := H12) (fun R r1 => ?_) ?_
  · walk_at "run"
    unfold sp_law_cell_at
    walk_at "run"
    refine ⟨ns, a12, by omega, _, l12, .int o, ?_, r1⟩
    rw [← hje]
    exact at_of (j := j) rfl (by rw [List.getElem?_map, List.getElem?_eq_getElem hj, ho]; rfl)
  walk_at "nxt"
  refine if_ext (b := false) (fun R r1 => ?_) (fun z => nomatch z) (fun _ H13 s13 => ?_)
  · walk_at "run"
    unfold sp_law_comes
    refine ⟨p, M, s, n, f, G, _, .int, .twice, rfl, h12, rfl, (fun z => by rw [ho1] at z; cases z), (fun g' e _ => by cases e; exact .inl ⟨oG, rfl⟩), fun H2 l2 s2 hl2 => ?_⟩
    unfold sp_law_only
    refine ⟨.twice, rfl, fun H3 l3 s3 hl3 => ?_⟩
    refine neD_lst (.inl (.inl (s3 _ _ hl2))) (.inl (.inl hl3)) kinds_flD ⟨false, rfl, ?_⟩
    rw [if_neg (by decide)]
    have s23 := s2.trans s3
    refine ⟨_, _, s23 _ _ hp12, rfl, ?_⟩
    unfold sp_House_row
    refine ⟨p, M, s, n, f, G, rfl, (h12.same s23).toHs0, fun l4 hl4 => ?_⟩
    have t1 := same_new (o := .lst (row n f)) hl4
    exact neD_lst (.inl (.inl upd_same)) (.inl (.inl (t1 _ _ (s23 _ _ hr12)))) row_flD ⟨_, rfl, r1 _ (s23.trans t1)⟩
  have h13 := h12.same s13
  have a13 := s13.seq a12
  have l13 := s13.seq l12
  have hr13 := s13 _ _ hr12
  obtain ⟨dx13, hp13⟩ := h13.hp
  walk_at "nxt"
  refine asg_any (fun v H' => Same H13 H' ∧ ∃ d, v = .ref d ∧ H' d = some (.lst ((offG G o).map V.int))) (fun R r1 => ?_) ?_
  · refine lc_lst (a := l) (xs := G.map V.int) (H' := H13) (fun R h => ⟨_, rfl, h⟩) l13 (by rw [List.length_map]; omega) (fun x => rfl) (fun i acc => acc = (offG (G.take i) o).map V.int) rfl ?_ ?_
    · rintro i y acc H2 hi sm rfl
      have hlt := (List.getElem?_eq_some_iff.mp hi).1
      rw [List.length_map] at hlt
      rw [List.getElem?_map, List.getElem?_eq_getElem hlt] at hi
      obtain rfl : V.int G[i] = y := Option.some.inj hi
      refine ⟨decide (G[i] ≠ o), fun R r2 => ?_, fun e => ⟨.int G[i], fun R r2 => ⟨_, rfl, r2⟩, ?_⟩, fun e => ?_⟩
      · show tTest (tOp rNe (tVar 6) (tVar 9)) [some (.ref a), some (.int M), some (.ref p), some (.ref l), some x, some (.int g), some (.int G[i]), some (.ref r), some (.ref d), some (.int o), none] H2 R
        walk_at "run"; simpa using r2
      · rw [take_next hlt]
        unfold offG
        rw [List.filter_append, List.map_append, List.filter_cons_of_pos (p := fun y => decide (y ≠ o)) e]; rfl
      · rw [take_next hlt]
        unfold offG
        rw [List.filter_append, List.filter_cons_of_neg (by rw [e]; decide)]; simp
    · rintro D H3 acc hD sm ha rfl hl
      rw [List.length_map, List.take_length] at ha
      exact r1 _ _ ⟨sm, D, rfl, ha⟩
  rintro _ H14 ⟨s14, lf, rfl, hlf⟩
  have h14 := h13.same s14
  have hr14 := s14 _ _ hr13
  obtain ⟨dx14, hp14⟩ := h14.hp
  walk_at "nxt"
  -- one goes
  refine if_any (b := false) (fun H' => ∃ (s' : Addr) (n' : Nat) (f' : Nat → Option Int), Off2 p s H14 H' ∧ (s' = s ∨ H14 s' = none) ∧ Hs C H' p M s' n' f' (offG G o)) (fun R r1 => ?_) (fun z => nomatch z) ?_
  · unfold tBM
    walk_at "run"
    refine ⟨_, _, hp14, rfl, ?_⟩
    unfold sp_House_go
    refine ⟨p, M, s, n, f, G, _, .int, rfl, h14, rfl, (fun z => by rw [ho1] at z; cases z), fun g' e _ => ?_⟩
    obtain rfl : o = g' := V.int.inj e
    refine ⟨fun z => absurd oG z, fun _ H2 s' n' f' qq o2 hs' h2 hq1 hq2 => ?_⟩
    have hr2 := o2 _ _ hrp hrs hr14
    refine ⟨ty_list (.inl (.inl hr2)), r, _, _, qq, _, rfl, rfl, .inl (.inl hr2), rfl, row_flat, row_get hq1, by rw [hq2]; exact decide_eq_true rfl, fun m z hmq hz => ?_, ?_⟩
    · obtain ⟨hmn, rfl⟩ := row_some hz
      cases e : f m with
      | none => rfl
      | some y =>
        refine decide_eq_false fun w => ?_
        rw [w] at e
        have := Ring.path_one hn h14.S.P hmn hq1 e hq2
        omega
    refine ⟨rfl, ?_⟩
    rw [if_neg (fun z => z rfl)]
    unfold sp_law_goes
    refine ⟨p, M, s', n', f', _, _, .int, .away, rfl, h2, rfl, (fun z => by rw [ho1] at z; cases z), (fun _ _ _ _ => rfl), fun H3 l3 _ s3 hl3 => ?_, fun g' e _ st => by cases e; exact absurd rfl (offG_mem.mp st).2⟩
    unfold sp_law_only
    refine ⟨.away, rfl, fun H4 l4 s4 hl4 => ?_⟩
    have s34 := s3.trans s4
    exact neD_lst (.inl (.inl (s4 _ _ hl3))) (.inl (.inl hl4)) kinds_flD ⟨_, rfl, r1 _ ⟨s', n', f', fun b ob hb hb2 hbo => s34 _ _ (o2 _ _ hb hb2 hbo), hs', h2.same s34⟩⟩
  rintro _ H15 ⟨s', n', f', o15, hs15, h15⟩
  have a15 := o15 _ _ (ints_ne h14.toHs0 hlf).1 (ints_ne h14.toHs0 hlf).2 hlf
  obtain ⟨dx15, hp15⟩ := h15.hp
  have n2' := h15.n2
  have lenO := offG_len ndG oG
  have gO : g ∉ offG G o := fun z => gG (offG_mem.mp z).1
  walk_at "nxt"
  refine if_any (b := false) (fun H' => ∃ (s2 : Addr) (n2 : Nat) (f2 : Nat → Option Int), Hs C H' p M s2 n2 f2 (offG G o ++ [g]) ∧ H' lf = some (.lst ((offG G o).map V.int))) (fun R r1 => ?_) (fun z => nomatch z) ?_
  · walk_at "run"
    refine ⟨_, _, hp15, rfl, ?_⟩
    unfold sp_House_row
    refine ⟨p, M, s', n', f', _, rfl, h15.toHs0, fun l2 hl2 => ?_⟩
    have t1 := same_new (o := .lst (row n' f')) hl2
    have h15' := h15.same t1
    unfold sp_law_settled
    refine ⟨l2, lf, n', f', _, rfl, upd_same, .inl (.inl (t1 _ _ a15)), h15.n3, h15.S.P, h15.S.e (by omega), h15.S.perm (by omega), h15.rm, by omega, fun H2 t2 => ?_⟩
    have h2 := h15'.same t2
    refine ⟨true, rfl, ?_⟩
    rw [if_neg (by decide)]
    unfold sp_law_sits
    refine ⟨p, M, s', n', f', _, g, rfl, h2, hg1, gO, by omega, fun H3 s2 n2 f2 o3 e3 h3 => ⟨true, rfl, ?_⟩⟩
    rw [if_neg (by decide)]
    have a2 := t2 _ _ (t1 _ _ a15)
    have a3 := o3 _ _ (ints_ne h2.toHs0 a2).1 (ints_ne h2.toHs0 a2).2 a2
    unfold sp_law_comes
    have oN : o ∉ offG G o ++ [g] := fun z => by
      rcases List.mem_append.mp z with z | z
      · exact (offG_mem.mp z).2 rfl
      · rw [List.mem_singleton] at z; exact gG (z ▸ oG)
    refine ⟨p, M, s2, n2, f2, _, _, .int, .full, rfl, h3, rfl, (fun z => by rw [ho1] at z; cases z), (fun g' e _ => by cases e; exact .inr ⟨oN, by rw [List.length_append, List.length_singleton]; omega, rfl⟩), fun H4 l4 s4 hl4 => ?_⟩
    unfold sp_law_only
    refine ⟨.full, rfl, fun H5 l5 s5 hl5 => ?_⟩
    exact neD_lst (.inl (.inl (s5 _ _ hl4))) (.inl (.inl hl5)) kinds_flD ⟨_, rfl, r1 _ ⟨s2, n2, f2, (h3.same s4).same s5, s5 _ _ (s4 _ _ a3)⟩⟩
  rintro _ H16 ⟨s2, n2, f2, h16, l16⟩
  obtain ⟨dx16, hp16⟩ := h16.hp
  walk_at "nxt"
  refine if_ext (b := false) (fun R r1 => ?_) (fun z => nomatch z) (fun _ H17 s17 => ?_)
  · walk_at "run"
    refine ⟨sizes (by decide), fun l1 hl1 => ?_⟩
    have t1 := same_new (o := .lst [V.int g]) hl1
    refine ⟨_, t1 _ _ l16, _, upd_same, sizes (n := ((offG G o).map V.int).length + 1) (by rw [List.length_map]; omega), fun l2 hl2 => ?_⟩
    have t2 := same_new (o := .lst ((offG G o).map V.int ++ [V.int g])) hl2
    unfold sp_law_there
    refine ⟨p, M, s2, n2, f2, _, l2, rfl, ((h16.same t1).same t2).toHs0, .inl (.inl ?_), fun H' s' => ⟨_, rfl, r1 _ (t1.trans (t2.trans s'))⟩⟩
    rw [upd_same, List.map_append]; rfl
  have h17 := h16.same s17
  have l17 := s17 _ _ l16
  walk_at "nxt"
  refine ret_any (fun v _ => v = .bl true) (fun R r1 => ?_) ?_
  · walk_at "run"
    have eO : offG (offG G o ++ [g]) g = offG G o := by
      have e1 : offG (offG G o) g = offG G o := List.filter_eq_self.mpr fun y hy => decide_eq_true fun z => gO (z ▸ hy)
      have e2 : offG [g] g = [] := List.filter_cons_of_neg (by simp)
      show List.filter _ (_ ++ _) = _
      rw [List.filter_append]
      show offG (offG G o) g ++ offG [g] g = _
      rw [e1, e2, List.append_nil]
    unfold sp_law_goes
    refine ⟨p, M, s2, n2, f2, _, _, .int, .away, rfl, h17, rfl, (fun z => by rw [hg1] at z; cases z), (fun _ _ _ _ => rfl), fun H2 l2 w s2 hl2 => ?_, fun g' e _ st H2 s3 n3 f3 l2 o2 e2 h2 hl2 => ?_⟩
    · exact absurd (List.mem_append_right _ (List.mem_singleton.mpr rfl)) (w hg1 g rfl)
    · obtain rfl : g = g' := V.int.inj e
      rw [eO] at h2
      refine ⟨sizes (by decide), fun l3 hl3 => ?_⟩
      have t3 := same_new (o := .lst []) hl3
      refine eqD_lst (xs := []) (.inl (.inl (t3 _ _ hl2))) (.inl (.inl upd_same)) rfl ⟨true, rfl, ?_⟩
      rw [if_pos rfl]
      unfold sp_law_there
      have a2 := o2 _ _ (ints_ne h17.toHs0 l17).1 (ints_ne h17.toHs0 l17).2 l17
      exact ⟨p, M, s3, n3, f3, _, lf, rfl, (h2.same t3).toHs0, .inl (.inl (t3 _ _ a2)), fun H' s' => r1 _ _ rfl⟩
  rintro _ H18 rfl
  exact q _
end
end RS
namespace RS
open PySem PySem.Spec PyProof.Rows L2
def topS (i : Nat) : Stmt := PySem.Challenge.pw_ringseat_k10_a_house.main.body.getD i (.Pass ⟨0, 0, 0, 0⟩)
/-- the built-in names that the text reads are still the built-in ones -/
structure Bl (mg : Str → Option Value) : Prop where
  ValueError : mg "ValueError" = none
  bool : mg "bool" = none
  int : mg "int" = none
  isinstance : mg "isinstance" = none
  len : mg "len" = none
  list : mg "list" = none
  range : mg "range" = none
  set : mg "set" = none
  sorted : mg "sorted" = none
abbrev s_is_guest : Stmt := topS 8
theorem sc_is_guest : FnScope ["thing"] ["thing"] (defScope s_is_guest) := ⟨rfl, rfl, rfl, by decide +kernel, rfl, by decide +kernel, by decide +kernel⟩
theorem ok_is_guest {P : Program} {w : World} {K : PySem.W.Frag} {mg : Str → Option Value} {base : Heap} {C : Cs} {f : Addr} {fd : FuncData} (F : Fun K "is_guest" "is_guest" s_is_guest f fd) (B : Bl mg) (T : TopH K mg C) :
    FnOk P w K mg base CX0 1 f fd ["thing"] (sp_is_guest K C) := by
  refine F.ok sc_is_guest (fun vs H Q E h => len_is_guest h) (fun cdv A outer s H vs Q E hr h => ⟨t_is_guest K C E, ?_, pure_is_guest T.f T.h h⟩)
  have hu := hu_of hr
  exact (pss_cons (ps_if (PW.pt (pw_or (pt_not (pt_val (pe_callB call_isA (by rfl) B.isinstance (by decide +kernel) (pa_cons (pv 0) (pa_cons (pe_bltn (v := .ty "int") (by rfl) B.int (by decide +kernel) rfl) pa_nil))))) (pw_or1 (pt_val (pe_callB call_isA (by rfl) B.isinstance (by decide +kernel) (pa_cons (pv 0) (pa_cons (pe_bltn (v := .ty "bool") (by rfl) B.bool (by decide +kernel) rfl) pa_nil))))))) (pss_one (ps_ret pe_bl)) pss_nil)
      (pss_one (ps_ret (pe_and (pe_cmpR op_le pe_int (pv 0) (nomark _)) (pe_one (pe_cmpR op_lt (pv 0) (pe_pow (m := 10) (n := 60) (N := 1000000000000000000000000000000000000000000000000000000000000) rfl rfl (by decide +kernel) (by decide) (by decide)) (nomark _)))))))
theorem cal_is_guest {P : Program} {w : World} {K : PySem.W.Frag} {mg : Str → Option Value} {base : Heap} {C : Cs} (D : Def K mg "is_guest" s_is_guest) (B : Bl mg) (T : TopH K mg C) :
    Cal P w K mg base CX0 1 "is_guest" ["thing"] (sp_is_guest K C) := by
  obtain ⟨f, fd, F, hm⟩ := D.ex
  exact ⟨f, fd, ok_is_guest F B T, hm, F.kp, F.binds (ps := ["thing"]) fun _ _ _ _ _ _ us hl => match us, hl with | [_], _ => rfl⟩
abbrev s_home : Stmt := topS 9
theorem sc_home : FnScope ["guest", "many"] ["guest", "many"] (defScope s_home) := ⟨rfl, rfl, rfl, by decide +kernel, rfl, by decide +kernel, by decide +kernel⟩
theorem ok_home {P : Program} {w : World} {K : PySem.W.Frag} {mg : Str → Option Value} {base : Heap} {C : Cs} {f : Addr} {fd : FuncData} (F : Fun K "home" "home" s_home f fd) (B : Bl mg) (T : TopH K mg C) :
    FnOk P w K mg base CX0 1 f fd ["guest", "many"] (sp_home K C) := by
  refine F.ok sc_home (fun vs H Q E h => len_home h) (fun cdv A outer s H vs Q E hr h => ⟨t_home K C E, ?_, pure_home T.f T.h h⟩)
  have hu := hu_of hr
  exact (pss_one (ps_ret (pe_op op_mod (pe_op op_mod (pe_op op_add (pe_op op_mulL (pv 0) pe_int) (pe_op op_fdiv (pv 0) pe_int)) pe_int) (pv 1))))
theorem cal_home {P : Program} {w : World} {K : PySem.W.Frag} {mg : Str → Option Value} {base : Heap} {C : Cs} (D : Def K mg "home" s_home) (B : Bl mg) (T : TopH K mg C) :
    Cal P w K mg base CX0 1 "home" ["guest", "many"] (sp_home K C) := by
  obtain ⟨f, fd, F, hm⟩ := D.ex
  exact ⟨f, fd, ok_home F B T, hm, F.kp, F.binds (ps := ["guest", "many"]) fun _ _ _ _ _ _ us hl => match us, hl with | [_, _], _ => rfl⟩
abbrev s_carried : Stmt := topS 10
theorem sc_carried : FnScope ["guest", "at", "many"] ["guest", "at", "many"] (defScope s_carried) := ⟨rfl, rfl, rfl, by decide +kernel, rfl, by decide +kernel, by decide +kernel⟩
theorem ok_carried {P : Program} {w : World} {K : PySem.W.Frag} {mg : Str → Option Value} {base : Heap} {C : Cs} {f : Addr} {fd : FuncData} (F : Fun K "carried" "carried" s_carried f fd) (B : Bl mg) (T : TopH K mg C) (c_home : Cal P w K mg base CX0 1 "home" ["guest", "many"] (sp_home K C)) :
    FnOk P w K mg base CX0 2 f fd ["guest", "at", "many"] (sp_carried K C) := by
  refine F.ok sc_carried (fun vs H Q E h => len_carried h) (fun cdv A outer s H vs Q E hr h => ⟨t_carried K C E, ?_, pure_carried T.f T.h h⟩)
  have hu := hu_of hr
  exact (pss_one (ps_ret (pe_op op_mod (pe_op op_sub (pv 1) (pe_fn c_home (hr.mono (by decide)) pass0 (pa_cons (pv 0) (pa_cons (pv 2) pa_nil)))) (pv 2))))
theorem cal_carried {P : Program} {w : World} {K : PySem.W.Frag} {mg : Str → Option Value} {base : Heap} {C : Cs} (D : Def K mg "carried" s_carried) (B : Bl mg) (T : TopH K mg C) (c_home : Cal P w K mg base CX0 1 "home" ["guest", "many"] (sp_home K C)) :
    Cal P w K mg base CX0 2 "carried" ["guest", "at", "many"] (sp_carried K C) := by
  obtain ⟨f, fd, F, hm⟩ := D.ex
  exact ⟨f, fd, ok_carried F B T c_home, hm, F.kp, F.binds (ps := ["guest", "at", "many"]) fun _ _ _ _ _ _ us hl => match us, hl with | [_, _, _], _ => rfl⟩
abbrev s_ahead : Stmt := topS 11
theorem sc_ahead : FnScope ["one", "other", "at", "many", "here", "there"] ["one", "other", "at", "many"] (defScope s_ahead) := ⟨rfl, rfl, rfl, by decide +kernel, rfl, by decide +kernel, by decide +kernel⟩
theorem ok_ahead {P : Program} {w : World} {K : PySem.W.Frag} {mg : Str → Option Value} {base : Heap} {C : Cs} {f : Addr} {fd : FuncData} (F : Fun K "ahead" "ahead" s_ahead f fd) (B : Bl mg) (T : TopH K mg C) (c_carried : Cal P w K mg base CX0 2 "carried" ["guest", "at", "many"] (sp_carried K C)) :
    FnOk P w K mg base CX0 3 f fd ["one", "other", "at", "many"] (sp_ahead K C) := by
  refine F.ok sc_ahead (fun vs H Q E h => len_ahead h) (fun cdv A outer s H vs Q E hr h => ⟨t_ahead K C E, ?_, pure_ahead T.f T.h h⟩)
  have hu := hu_of hr
  exact (pss_cons (ps_set (i := 4) sc_ahead.nd rfl (.inl rfl) (pe_fn c_carried (hr.mono (by decide)) pass0 (pa_cons (pv 0) (pa_cons (pv 2) (pa_cons (pv 3) pa_nil)))))
      (pss_cons (ps_set (i := 5) sc_ahead.nd rfl (.inl rfl) (pe_fn c_carried (hr.mono (by decide)) pass0 (pa_cons (pv 1) (pa_cons (pv 2) (pa_cons (pv 3) pa_nil)))))
      (pss_cons (ps_if (pt_cmpR op_ne (pv 4) (pv 5) (nomark _)) (pss_one (ps_ret (pe_cmpR op_gt (pv 4) (pv 5) (nomark _)))) pss_nil)
      (pss_one (ps_ret (pe_cmpR op_lt (pv 0) (pv 1) (nomark _)))))))
theorem cal_ahead {P : Program} {w : World} {K : PySem.W.Frag} {mg : Str → Option Value} {base : Heap} {C : Cs} (D : Def K mg "ahead" s_ahead) (B : Bl mg) (T : TopH K mg C) (c_carried : Cal P w K mg base CX0 2 "carried" ["guest", "at", "many"] (sp_carried K C)) :
    Cal P w K mg base CX0 3 "ahead" ["one", "other", "at", "many"] (sp_ahead K C) := by
  obtain ⟨f, fd, F, hm⟩ := D.ex
  exact ⟨f, fd, ok_ahead F B T c_carried, hm, F.kp, F.binds (ps := ["one", "other", "at", "many"]) fun _ _ _ _ _ _ us hl => match us, hl with | [_, _, _, _], _ => rfl⟩
abbrev s_room : Stmt := topS 12
theorem sc_room : FnScope ["count", "size"] ["count"] (defScope s_room) := ⟨rfl, rfl, rfl, by decide +kernel, rfl, by decide +kernel, by decide +kernel⟩
theorem ok_room {P : Program} {w : World} {K : PySem.W.Frag} {mg : Str → Option Value} {base : Heap} {C : Cs} {f : Addr} {fd : FuncData} (F : Fun K "room" "room" s_room f fd) (B : Bl mg) (T : TopH K mg C) :
    FnOk P w K mg base CX0 1 f fd ["count"] (sp_room K C) := by
  refine F.ok sc_room (fun vs H Q E h => len_room h) (fun cdv A outer s H vs Q E hr h => ⟨t_room K C E, ?_, pure_room T.f T.h h⟩)
  have hu := hu_of hr
  exact (pss_cons (ps_set (i := 1) sc_room.nd rfl (.inl rfl) pe_int)
      (pss_cons (ps_while PassesOwn.never (pt_cmpR op_gt (pe_op op_mulL pe_int (pv 0)) (pe_op op_mulL pe_int (pv 1)) (nomark _)) (pss_one (ps_set (i := 1) sc_room.nd rfl (.inl rfl) (pe_op op_mulL pe_int (pv 1)))))
      (pss_one (ps_ret (pv 1)))))
theorem cal_room {P : Program} {w : World} {K : PySem.W.Frag} {mg : Str → Option Value} {base : Heap} {C : Cs} (D : Def K mg "room" s_room) (B : Bl mg) (T : TopH K mg C) :
    Cal P w K mg base CX0 1 "room" ["count"] (sp_room K C) := by
  obtain ⟨f, fd, F, hm⟩ := D.ex
  exact ⟨f, fd, ok_room F B T, hm, F.kp, F.binds (ps := ["count"]) fun _ _ _ _ _ _ us hl => match us, hl with | [_], _ => rfl⟩
abbrev s_look_for : Stmt := topS 14
theorem sc_look_for : FnScope ["seats", "guest", "many", "at", "looked"] ["seats", "guest"] (defScope s_look_for) := ⟨rfl, rfl, rfl, by decide +kernel, rfl, by decide +kernel, by decide +kernel⟩
theorem ok_look_for {P : Program} {w : World} {K : PySem.W.Frag} {mg : Str → Option Value} {base : Heap} {C : Cs} {f : Addr} {fd : FuncData} (F : Fun K "look_for" "look_for" s_look_for f fd) (B : Bl mg) (T : TopH K mg C) (c_is_guest : Cal P w K mg base CX0 1 "is_guest" ["thing"] (sp_is_guest K C)) (c_home : Cal P w K mg base CX0 1 "home" ["guest", "many"] (sp_home K C)) (c_ahead : Cal P w K mg base CX0 3 "ahead" ["one", "other", "at", "many"] (sp_ahead K C)) :
    FnOk P w K mg base (L2.CX P w) 4 f fd ["seats", "guest"] (sp_look_for K C) := by
  refine F.okX sc_look_for (fun vs H Q E h => len_look_for h) (fun cdv A outer s H vs Q E hr h => ⟨t_look_for K C E, ?_, pure_look_for T.f T.h h⟩)
  have hu := hu_of hr
  exact (pss_cons (ps_if (pt_not (pt_val (pe_fn c_is_guest (hr.mono (by decide)) pass0 (pa_cons (pv 1) pa_nil)))) (pss_one (ps_raise rfl (takes_of rfl rfl rfl rfl) (pmk_own PySem.F.excBase_ValueError (T.f.ex .noGuest).q T.gNoGuest (T.f.ex .noGuest).k (raises_own (T.f.ex .noGuest).b (T.f.ex .noGuest).t) (by rfl)))) pss_nil)
      (PSs.nox (pss_cons (ps_set (i := 2) sc_look_for.nd rfl (.inl rfl) (pe_callB call_len_seq (by rfl) B.len (by decide +kernel) (pa_cons (pv 0) pa_nil)))
      (pss_cons (ps_set (i := 3) sc_look_for.nd rfl (.inl rfl) (pe_fn c_home (hr.mono (by decide)) pass0 (pa_cons (pv 1) (pa_cons (pv 2) pa_nil))))
      (pss_cons (ps_set (i := 4) sc_look_for.nd rfl (.inl rfl) pe_int)
      (pss_cons (ps_while PassesOwn.never (PW.pt (pw_and (pt_cmp (pc_notN (pe_ix ix_list (pv 0) (pv 3) (fun _ _ => rfl)))) (pw_and1 (pt_val (pe_fn c_ahead (hr.mono (by decide)) pass0 (pa_cons (pe_ix ix_list (pv 0) (pv 3) (fun _ _ => rfl)) (pa_cons (pv 1) (pa_cons (pv 3) (pa_cons (pv 2) pa_nil))))))))) (pss_cons (ps_set (i := 3) sc_look_for.nd rfl (.inl rfl) (pe_op op_mod (pe_op op_add (pv 3) pe_int) (pv 2)))
      (pss_one (ps_set (i := 4) sc_look_for.nd rfl (.inl rfl) (pe_op op_add (pv 4) pe_int)))))
      (pss_one (ps_ret (pe_tup (pa_cons (pv 3) (pa_cons (pv 4) pa_nil)))))))))))
theorem cal_look_for {P : Program} {w : World} {K : PySem.W.Frag} {mg : Str → Option Value} {base : Heap} {C : Cs} (D : Def K mg "look_for" s_look_for) (B : Bl mg) (T : TopH K mg C) (c_is_guest : Cal P w K mg base CX0 1 "is_guest" ["thing"] (sp_is_guest K C)) (c_home : Cal P w K mg base CX0 1 "home" ["guest", "many"] (sp_home K C)) (c_ahead : Cal P w K mg base CX0 3 "ahead" ["one", "other", "at", "many"] (sp_ahead K C)) :
    Cal P w K mg base (L2.CX P w) 4 "look_for" ["seats", "guest"] (sp_look_for K C) := by
  obtain ⟨f, fd, F, hm⟩ := D.ex
  exact ⟨f, fd, ok_look_for F B T c_is_guest c_home c_ahead, hm, F.kp, F.binds (ps := ["seats", "guest"]) fun _ _ _ _ _ _ us hl => match us, hl with | [_, _], _ => rfl⟩
abbrev s_place_of : Stmt := topS 15
theorem sc_place_of : FnScope ["seats", "guest", "at"] ["seats", "guest"] (defScope s_place_of) := ⟨rfl, rfl, rfl, by decide +kernel, rfl, by decide +kernel, by decide +kernel⟩
theorem ok_place_of {P : Program} {w : World} {K : PySem.W.Frag} {mg : Str → Option Value} {base : Heap} {C : Cs} {f : Addr} {fd : FuncData} (F : Fun K "place_of" "place_of" s_place_of f fd) (B : Bl mg) (T : TopH K mg C) (c_look_for : Cal P w K mg base (L2.CX P w) 4 "look_for" ["seats", "guest"] (sp_look_for K C)) :
    FnOk P w K mg base (L2.CX P w) 5 f fd ["seats", "guest"] (sp_place_of K C) := by
  refine F.okX sc_place_of (fun vs H Q E h => len_place_of h) (fun cdv A outer s H vs Q E hr h => ⟨t_place_of K C E, ?_, pure_place_of T.f T.h h⟩)
  have hu := hu_of hr
  exact (pss_cons (ps_set (i := 2) sc_place_of.nd rfl (.inl rfl) (pe_ix ix_tup (pe_fn c_look_for (hr.mono (by decide)) (passes_call (takes_of rfl rfl rfl rfl) (fun _ _ _ _ h => h)) (pa_cons (pv 0) (pa_cons (pv 1) pa_nil))) pe_int (fun _ _ => rfl)))
      (PSs.nox (pss_cons (ps_if (pt_cmpR op_eq (pe_ix ix_list (pv 0) (pv 2) (fun _ _ => rfl)) (pv 1) (nomark _)) (pss_one (ps_ret (pv 2))) pss_nil)
      (pss_one (ps_ret pe_non)))))
theorem cal_place_of {P : Program} {w : World} {K : PySem.W.Frag} {mg : Str → Option Value} {base : Heap} {C : Cs} (D : Def K mg "place_of" s_place_of) (B : Bl mg) (T : TopH K mg C) (c_look_for : Cal P w K mg base (L2.CX P w) 4 "look_for" ["seats", "guest"] (sp_look_for K C)) :
    Cal P w K mg base (L2.CX P w) 5 "place_of" ["seats", "guest"] (sp_place_of K C) := by
  obtain ⟨f, fd, F, hm⟩ := D.ex
  exact ⟨f, fd, ok_place_of F B T c_look_for, hm, F.kp, F.binds (ps := ["seats", "guest"]) fun _ _ _ _ _ _ us hl => match us, hl with | [_, _], _ => rfl⟩
abbrev s_take_seat : Stmt := topS 17
theorem sc_take_seat : FnScope ["seats", "guest", "at", "found", "other"] ["seats", "guest"] (defScope s_take_seat) := ⟨rfl, rfl, rfl, by decide +kernel, rfl, by decide +kernel, by decide +kernel⟩
theorem ok_take_seat {P : Program} {w : World} {K : PySem.W.Frag} {mg : Str → Option Value} {base : Heap} {C : Cs} {f : Addr} {fd : FuncData} (F : Fun K "take_seat" "take_seat" s_take_seat f fd) (B : Bl mg) (T : TopH K mg C) (c_look_for : Cal P w K mg base (L2.CX P w) 4 "look_for" ["seats", "guest"] (sp_look_for K C)) :
    FnOk P w K mg base (L2.CX P w) 5 f fd ["seats", "guest"] (sp_take_seat K C) := by
  refine F.okX sc_take_seat (fun vs H Q E h => len_take_seat h) (fun cdv A outer s H vs Q E hr h => ⟨t_take_seat K C E, ?_, pure_take_seat T.f T.h h⟩)
  have hu := hu_of hr
  exact (pss_cons (ps_set (i := 2) sc_take_seat.nd rfl (.inl rfl) (pe_ix ix_tup (pe_fn c_look_for (hr.mono (by decide)) (passes_call (takes_of rfl rfl rfl rfl) (fun _ _ _ _ h => h)) (pa_cons (pv 0) (pa_cons (pv 1) pa_nil))) pe_int (fun _ _ => rfl)))
      (PSs.nox (pss_cons (ps_set (i := 3) sc_take_seat.nd rfl (.inl rfl) (pv 2))
      (pss_cons (ps_while PassesOwn.never (pt_cmp (pc_notN (pv 1))) (pss_cons (ps_set (i := 4) sc_take_seat.nd rfl (.inl rfl) (pe_ix ix_list (pv 0) (pv 2) (fun _ _ => rfl)))
      (pss_cons (ps_asg (pv 1) (pg_sub (pv 0) (pv 2) set_list))
      (pss_cons (ps_set (i := 1) sc_take_seat.nd rfl (.inl rfl) (pv 4))
      (pss_one (ps_set (i := 2) sc_take_seat.nd rfl (.inl rfl) (pe_op op_mod (pe_op op_add (pv 2) pe_int) (pe_callB call_len_seq (by rfl) B.len (by decide +kernel) (pa_cons (pv 0) pa_nil)))))))))
      (pss_one (ps_ret (pv 3)))))))
theorem cal_take_seat {P : Program} {w : World} {K : PySem.W.Frag} {mg : Str → Option Value} {base : Heap} {C : Cs} (D : Def K mg "take_seat" s_take_seat) (B : Bl mg) (T : TopH K mg C) (c_look_for : Cal P w K mg base (L2.CX P w) 4 "look_for" ["seats", "guest"] (sp_look_for K C)) :
    Cal P w K mg base (L2.CX P w) 5 "take_seat" ["seats", "guest"] (sp_take_seat K C) := by
  obtain ⟨f, fd, F, hm⟩ := D.ex
  exact ⟨f, fd, ok_take_seat F B T c_look_for, hm, F.kp, F.binds (ps := ["seats", "guest"]) fun _ _ _ _ _ _ us hl => match us, hl with | [_, _], _ => rfl⟩
abbrev s_leave_seat : Stmt := topS 18
theorem sc_leave_seat : FnScope ["seats", "at", "many", "behind"] ["seats", "at"] (defScope s_leave_seat) := ⟨rfl, rfl, rfl, by decide +kernel, rfl, by decide +kernel, by decide +kernel⟩
theorem ok_leave_seat {P : Program} {w : World} {K : PySem.W.Frag} {mg : Str → Option Value} {base : Heap} {C : Cs} {f : Addr} {fd : FuncData} (F : Fun K "leave_seat" "leave_seat" s_leave_seat f fd) (B : Bl mg) (T : TopH K mg C) (c_carried : Cal P w K mg base CX0 2 "carried" ["guest", "at", "many"] (sp_carried K C)) :
    FnOk P w K mg base CX0 3 f fd ["seats", "at"] (sp_leave_seat K C) := by
  refine F.ok sc_leave_seat (fun vs H Q E h => len_leave_seat h) (fun cdv A outer s H vs Q E hr h => ⟨t_leave_seat K C E, ?_, pure_leave_seat T.f T.h h⟩)
  have hu := hu_of hr
  exact (pss_cons (ps_set (i := 2) sc_leave_seat.nd rfl (.inl rfl) (pe_callB call_len_seq (by rfl) B.len (by decide +kernel) (pa_cons (pv 0) pa_nil)))
      (pss_cons (ps_set (i := 3) sc_leave_seat.nd rfl (.inl rfl) (pe_op op_mod (pe_op op_add (pv 1) pe_int) (pv 2)))
      (pss_cons (ps_while PassesOwn.never (PW.pt (pw_and (pt_cmp (pc_notN (pe_ix ix_list (pv 0) (pv 3) (fun _ _ => rfl)))) (pw_and1 (pt_cmpR op_gt (pe_fn c_carried (hr.mono (by decide)) pass0 (pa_cons (pe_ix ix_list (pv 0) (pv 3) (fun _ _ => rfl)) (pa_cons (pv 3) (pa_cons (pv 2) pa_nil)))) pe_int (nomark _))))) (pss_cons (ps_asg (pe_ix ix_list (pv 0) (pv 3) (fun _ _ => rfl)) (pg_sub (pv 0) (pv 1) set_list))
      (pss_cons (ps_set (i := 1) sc_leave_seat.nd rfl (.inl rfl) (pv 3))
      (pss_one (ps_set (i := 3) sc_leave_seat.nd rfl (.inl rfl) (pe_op op_mod (pe_op op_add (pv 1) pe_int) (pv 2)))))))
      (pss_one (ps_asg pe_non (pg_sub (pv 0) (pv 1) set_list))))))
theorem cal_leave_seat {P : Program} {w : World} {K : PySem.W.Frag} {mg : Str → Option Value} {base : Heap} {C : Cs} (D : Def K mg "leave_seat" s_leave_seat) (B : Bl mg) (T : TopH K mg C) (c_carried : Cal P w K mg base CX0 2 "carried" ["guest", "at", "many"] (sp_carried K C)) :
    Cal P w K mg base CX0 3 "leave_seat" ["seats", "at"] (sp_leave_seat K C) := by
  obtain ⟨f, fd, F, hm⟩ := D.ex
  exact ⟨f, fd, ok_leave_seat F B T c_carried, hm, F.kp, F.binds (ps := ["seats", "at"]) fun _ _ _ _ _ _ us hl => match us, hl with | [_, _], _ => rfl⟩
abbrev s_looked_through : Stmt := topS 19
theorem sc_looked_through : FnScope ["guests", "many", "guest"] ["guests", "many"] (defScope s_looked_through) := ⟨rfl, rfl, rfl, by decide +kernel, rfl, by decide +kernel, by decide +kernel⟩
theorem ok_looked_through {P : Program} {w : World} {K : PySem.W.Frag} {mg : Str → Option Value} {base : Heap} {C : Cs} {f : Addr} {fd : FuncData} (F : Fun K "looked_through" "looked_through" s_looked_through f fd) (B : Bl mg) (T : TopH K mg C) (c_is_guest : Cal P w K mg base CX0 1 "is_guest" ["thing"] (sp_is_guest K C)) :
    FnOk P w K mg base (L2.CX P w) 2 f fd ["guests", "many"] (sp_looked_through K C) := by
  refine F.okX sc_looked_through (fun vs H Q E h => len_looked_through h) (fun cdv A outer s H vs Q E hr h => ⟨t_looked_through K C E, ?_, pure_looked_through T.f T.h h⟩)
  have hu := hu_of hr
  exact (pss_cons (ps_for (passes_of rfl) rfl (pi_list (pv 0)) (pg_name (i := 2) sc_looked_through.nd rfl (.inl rfl)) (pss_one (ps_if (pt_not (pt_val (pe_fn c_is_guest (hr.mono (by decide)) pass0 (pa_cons (pv 2) pa_nil)))) (pss_one (ps_raise rfl (takes_of rfl rfl rfl rfl) (pmk_own PySem.F.excBase_ValueError (T.f.ex .noGuest).q T.gNoGuest (T.f.ex .noGuest).k (raises_own (T.f.ex .noGuest).b (T.f.ex .noGuest).t) (by rfl)))) pss_nil)))
      (pss_cons (ps_if (pt_cmpR op_lt (pe_lenSet B.len B.set (pv 0)) (pe_callB call_len_seq (by rfl) B.len (by decide +kernel) (pa_cons (pv 0) pa_nil)) (nomark _)) (pss_one (ps_raise rfl (takes_of rfl rfl rfl rfl) (pmk_own PySem.F.excBase_ValueError (T.f.ex .twice).q T.gTwice (T.f.ex .twice).k (raises_own (T.f.ex .twice).b (T.f.ex .twice).t) (by rfl)))) pss_nil)
      (pss_one (ps_if (pt_cmpR op_ge (pe_callB call_len_seq (by rfl) B.len (by decide +kernel) (pa_cons (pv 0) pa_nil)) (pv 1) (nomark _)) (pss_one (ps_raise rfl (takes_of rfl rfl rfl rfl) (pmk_own PySem.F.excBase_ValueError (T.f.ex .full).q T.gFull (T.f.ex .full).k (raises_own (T.f.ex .full).b (T.f.ex .full).t) (by rfl)))) pss_nil))))
theorem cal_looked_through {P : Program} {w : World} {K : PySem.W.Frag} {mg : Str → Option Value} {base : Heap} {C : Cs} (D : Def K mg "looked_through" s_looked_through) (B : Bl mg) (T : TopH K mg C) (c_is_guest : Cal P w K mg base CX0 1 "is_guest" ["thing"] (sp_is_guest K C)) :
    Cal P w K mg base (L2.CX P w) 2 "looked_through" ["guests", "many"] (sp_looked_through K C) := by
  obtain ⟨f, fd, F, hm⟩ := D.ex
  exact ⟨f, fd, ok_looked_through F B T c_is_guest, hm, F.kp, F.binds (ps := ["guests", "many"]) fun _ _ _ _ _ _ us hl => match us, hl with | [_, _], _ => rfl⟩
abbrev s_seated : Stmt := topS 20
theorem sc_seated : FnScope ["guests", "many", "seats", "guest"] ["guests", "many"] (defScope s_seated) := ⟨rfl, rfl, rfl, by decide +kernel, rfl, by decide +kernel, by decide +kernel⟩
theorem ok_seated {P : Program} {w : World} {K : PySem.W.Frag} {mg : Str → Option Value} {base : Heap} {C : Cs} {f : Addr} {fd : FuncData} (F : Fun K "seated" "seated" s_seated f fd) (B : Bl mg) (T : TopH K mg C) (c_looked_through : Cal P w K mg base (L2.CX P w) 2 "looked_through" ["guests", "many"] (sp_looked_through K C)) (c_take_seat : Cal P w K mg base (L2.CX P w) 5 "take_seat" ["seats", "guest"] (sp_take_seat K C)) :
    FnOk P w K mg base (L2.CX P w) 6 f fd ["guests", "many"] (sp_seated K C) := by
  refine F.okX sc_seated (fun vs H Q E h => len_seated h) (fun cdv A outer s H vs Q E hr h => ⟨t_seated K C E, ?_, pure_seated T.f T.h h⟩)
  have hu := hu_of hr
  exact (pss_cons (ps_expr (pe_fn c_looked_through (hr.mono (by decide)) (passes_call (takes_of rfl rfl rfl rfl) (fun _ _ _ _ h => h)) (pa_cons (pv 0) (pa_cons (pv 1) pa_nil))))
      (pss_cons (ps_set (i := 2) sc_seated.nd rfl (.inl rfl) (pe_op op_rep (pe_lst (pa_cons pe_non pa_nil)) (pv 1)))
      (pss_cons (ps_for (passes_of rfl) rfl (pi_list (pv 0)) (pg_name (i := 3) sc_seated.nd rfl (.inl rfl)) (pss_one (ps_expr (pe_fn c_take_seat (hr.mono (by decide)) (passes_call (takes_of rfl rfl rfl rfl) (fun _ _ _ _ h => h)) (pa_cons (pv 2) (pa_cons (pv 3) pa_nil))))))
      (PSs.nox (pss_one (ps_ret (pv 2)))))))
theorem cal_seated {P : Program} {w : World} {K : PySem.W.Frag} {mg : Str → Option Value} {base : Heap} {C : Cs} (D : Def K mg "seated" s_seated) (B : Bl mg) (T : TopH K mg C) (c_looked_through : Cal P w K mg base (L2.CX P w) 2 "looked_through" ["guests", "many"] (sp_looked_through K C)) (c_take_seat : Cal P w K mg base (L2.CX P w) 5 "take_seat" ["seats", "guest"] (sp_take_seat K C)) :
    Cal P w K mg base (L2.CX P w) 6 "seated" ["guests", "many"] (sp_seated K C) := by
  obtain ⟨f, fd, F, hm⟩ := D.ex
  exact ⟨f, fd, ok_seated F B T c_looked_through c_take_seat, hm, F.kp, F.binds (ps := ["guests", "many"]) fun _ _ _ _ _ _ us hl => match us, hl with | [_, _], _ => rfl⟩
abbrev s_House_init : Stmt := inClass (topS 22) 0
theorem sc_House_init : FnScope ["self", "most"] ["self", "most"] (defScope s_House_init) := ⟨rfl, rfl, rfl, by decide +kernel, rfl, by decide +kernel, by decide +kernel⟩
theorem ok_House_init {P : Program} {w : World} {K : PySem.W.Frag} {mg : Str → Option Value} {base : Heap} {C : Cs} {f : Addr} {fd : FuncData} (F : FunD K "__init__" "House.__init__" (defArgs s_House_init) (defBody s_House_init) (defScope s_House_init) [.int 96] [] f fd) (B : Bl mg) (T : TopH K mg C) (c_room : Cal P w K mg base CX0 1 "room" ["count"] (sp_room K C)) :
    FnOk P w K mg base (L2.CX P w) 2 f fd ["self", "most"] (sp_House_init K C) := by
  refine F.ok (CX := L2.CX P w) sc_House_init (fun vs H Q E h => len_House_init h) (fun cdv A outer s H vs Q E hr h => ⟨t_House_init K C E, ?_, pure_House_init T.f T.h h⟩)
  have hu := hu_of hr
  exact (pss_cons (ps_if (PW.pt (pw_or (pt_not (pt_val (pe_callB call_isA (by rfl) B.isinstance (by decide +kernel) (pa_cons (pv 1) (pa_cons (pe_bltn (v := .ty "int") (by rfl) B.int (by decide +kernel) rfl) pa_nil))))) (pw_or (pt_val (pe_callB call_isA (by rfl) B.isinstance (by decide +kernel) (pa_cons (pv 1) (pa_cons (pe_bltn (v := .ty "bool") (by rfl) B.bool (by decide +kernel) rfl) pa_nil)))) (pw_or (pt_cmpR op_lt (pv 1) pe_int (nomark _)) (pw_or1 (pt_cmpR op_gt (pv 1) pe_int (nomark _))))))) (pss_one (ps_raise rfl (takes_of rfl rfl rfl rfl) (pmk_own PySem.F.excBase_ValueError (T.f.ex .noSize).q T.gNoSize (T.f.ex .noSize).k (raises_own (T.f.ex .noSize).b (T.f.ex .noSize).t) (by rfl)))) pss_nil)
      (PSs.nox (pss_cons (ps_fld (pv 0) (pv 1) rfl)
      (pss_one (ps_fld (pv 0) (pe_op op_rep (pe_lst (pa_cons pe_non pa_nil)) (pe_fn c_room (hr.mono (by decide)) pass0 (pa_cons pe_int pa_nil))) rfl)))))
theorem cal_House_init {P : Program} {w : World} {K : PySem.W.Frag} {mg : Str → Option Value} {base : Heap} {C : Cs} (D : DefI K C.cHouse s_House_init) (B : Bl mg) (T : TopH K mg C) (c_room : Cal P w K mg base CX0 1 "room" ["count"] (sp_room K C)) :
    CalI P w K mg base 2 C.cHouse ["self", "most"] (.int 96) (sp_House_init K C) := by
  obtain ⟨f, fd, F, hm⟩ := D.ex
  refine ⟨f, fd, ok_House_init F B T c_room, hm, ?_, ?_⟩
  · obtain ⟨ds, r, b⟩ := F.binds1 (ps := ["self", "most"]) 2 1 (by simp) rfl (fun T kV doc pm an cdv ct us its h1 h2 => match us, its, h1, h2 with | [u1, u2], [d], _, _ => ⟨_, rfl, rfl⟩)
    match ds, r with
    | [], .nil => exact b
  · obtain ⟨ds, r, b⟩ := F.binds1 (ps := ["self", "most"]) 1 0 (by simp) rfl (fun T kV doc pm an cdv ct us its h1 h2 => match us, its, h1, h2 with | [u], [d], _, _ => ⟨_, rfl, rfl⟩)
    match ds, r with
    | [d], .cons a .nil => exact ⟨d, a, b⟩
theorem calk_House_init {P : Program} {w : World} {K : PySem.W.Frag} {mg : Str → Option Value} {base : Heap} {C : Cs} (D : DefI K C.cHouse s_House_init) (B : Bl mg) (T : TopH K mg C) (c_room : Cal P w K mg base CX0 1 "room" ["count"] (sp_room K C)) :
    CalK P w K mg base 2 C.cHouse ["self", "most"] "most" (sp_House_init K C) := by
  obtain ⟨f, fd, F, hm⟩ := D.ex
  obtain ⟨its, b⟩ := F.kbindsD (ps := ["self", "most"]) 1 ["most"] (fun vs _ zs => vs ++ zs) (by simp) (fun r _ z => r.append z) (fun T kV doc pm an cdv ct us its ws h1 h2 h3 => match us, its, ws, h1, h2, h3 with | [u], [d], [v], _, _, _ => ⟨_, rfl, rfl⟩)
  exact ⟨f, fd, ok_House_init F B T c_room, hm, b⟩
abbrev s_House_come : Stmt := inClass (topS 22) 1
theorem sc_House_come : FnScope ["self", "guest", "size"] ["self", "guest"] (defScope s_House_come) := ⟨rfl, rfl, rfl, by decide +kernel, rfl, by decide +kernel, by decide +kernel⟩
theorem ok_House_come {P : Program} {w : World} {K : PySem.W.Frag} {mg : Str → Option Value} {base : Heap} {C : Cs} {f : Addr} {fd : FuncData} (F : Fun K "come" "House.come" s_House_come f fd) (B : Bl mg) (T : TopH K mg C) (c_place_of : Cal P w K mg base (L2.CX P w) 5 "place_of" ["seats", "guest"] (sp_place_of K C)) (c_House_many : CalM P w K mg base CX0 1 C.cHouse "many" ["self"] (sp_House_many K C)) (c_room : Cal P w K mg base CX0 1 "room" ["count"] (sp_room K C)) (c_House_guests : CalM P w K mg base CX0 1 C.cHouse "guests" ["self"] (sp_House_guests K C)) (c_seated : Cal P w K mg base (L2.CX P w) 6 "seated" ["guests", "many"] (sp_seated K C)) (c_take_seat : Cal P w K mg base (L2.CX P w) 5 "take_seat" ["seats", "guest"] (sp_take_seat K C)) :
    FnOk P w K mg base (L2.CX P w) 7 f fd ["self", "guest"] (sp_House_come K C) := by
  refine F.okX sc_House_come (fun vs H Q E h => len_House_come h) (fun cdv A outer s H vs Q E hr h => ⟨t_House_come K C E, ?_, pure_House_come T.f T.h h⟩)
  have hu := hu_of hr
  exact (pss_cons (ps_if (pt_cmp (pc_notN (pe_fn c_place_of (hr.mono (by decide)) (passes_call (takes_of rfl rfl rfl rfl) (fun _ _ _ _ h => h)) (pa_cons (pe_fld (pv 0) rfl) (pa_cons (pv 1) pa_nil))))) (pss_one (ps_raise rfl (takes_of rfl rfl rfl rfl) (pmk_own PySem.F.excBase_ValueError (T.f.ex .twice).q T.gTwice (T.f.ex .twice).k (raises_own (T.f.ex .twice).b (T.f.ex .twice).t) (by rfl)))) pss_nil)
      (pss_cons (ps_if (pt_cmpR op_ge (CalM.use c_House_many fun f fd F hm hb => pe_meth0 (pv 0) T.h.cl hm F (hr.mono (by decide)) hb .nil pass0) (pe_fld (pv 0) rfl) (nomark _)) (pss_one (ps_raise rfl (takes_of rfl rfl rfl rfl) (pmk_own PySem.F.excBase_ValueError (T.f.ex .full).q T.gFull (T.f.ex .full).k (raises_own (T.f.ex .full).b (T.f.ex .full).t) (by rfl)))) pss_nil)
      (pss_cons (ps_set (i := 2) sc_House_come.nd rfl (.inl rfl) (pe_fn c_room (hr.mono (by decide)) pass0 (pa_cons (pe_op op_add (CalM.use c_House_many fun f fd F hm hb => pe_meth0 (pv 0) T.h.cl hm F (hr.mono (by decide)) hb .nil pass0) pe_int) pa_nil)))
      (pss_cons (ps_if (pt_cmpR op_ne (pv 2) (pe_callB call_len_seq (by rfl) B.len (by decide +kernel) (pa_cons (pe_fld (pv 0) rfl) pa_nil)) (nomark _)) (pss_one (ps_fld (pv 0) (pe_fn c_seated (hr.mono (by decide)) (passes_call (takes_of rfl rfl rfl rfl) (fun _ _ _ _ h => h)) (pa_cons (CalM.use c_House_guests fun f fd F hm hb => pe_meth0 (pv 0) T.h.cl hm F (hr.mono (by decide)) hb .nil pass0) (pa_cons (pv 2) pa_nil))) rfl)) pss_nil)
      (pss_one (ps_ret (pe_fn c_take_seat (hr.mono (by decide)) (passes_call (takes_of rfl rfl rfl rfl) (fun _ _ _ _ h => h)) (pa_cons (pe_fld (pv 0) rfl) (pa_cons (pv 1) pa_nil)))))))))
theorem cal_House_come {P : Program} {w : World} {K : PySem.W.Frag} {mg : Str → Option Value} {base : Heap} {C : Cs} (D : DefM K C.cHouse "come" "House.come" s_House_come) (B : Bl mg) (T : TopH K mg C) (c_place_of : Cal P w K mg base (L2.CX P w) 5 "place_of" ["seats", "guest"] (sp_place_of K C)) (c_House_many : CalM P w K mg base CX0 1 C.cHouse "many" ["self"] (sp_House_many K C)) (c_room : Cal P w K mg base CX0 1 "room" ["count"] (sp_room K C)) (c_House_guests : CalM P w K mg base CX0 1 C.cHouse "guests" ["self"] (sp_House_guests K C)) (c_seated : Cal P w K mg base (L2.CX P w) 6 "seated" ["guests", "many"] (sp_seated K C)) (c_take_seat : Cal P w K mg base (L2.CX P w) 5 "take_seat" ["seats", "guest"] (sp_take_seat K C)) :
    CalM P w K mg base (L2.CX P w) 7 C.cHouse "come" ["self", "guest"] (sp_House_come K C) := by
  obtain ⟨f, fd, F, hm⟩ := D.ex
  exact ⟨f, fd, ok_House_come F B T c_place_of c_House_many c_room c_House_guests c_seated c_take_seat, hm, F.binds (ps := ["self", "guest"]) fun _ _ _ _ _ _ us hl => match us, hl with | [_, _], _ => rfl⟩
abbrev s_House_go : Stmt := inClass (topS 22) 2
theorem sc_House_go : FnScope ["self", "guest", "at", "size"] ["self", "guest"] (defScope s_House_go) := ⟨rfl, rfl, rfl, by decide +kernel, rfl, by decide +kernel, by decide +kernel⟩
theorem ok_House_go {P : Program} {w : World} {K : PySem.W.Frag} {mg : Str → Option Value} {base : Heap} {C : Cs} {f : Addr} {fd : FuncData} (F : Fun K "go" "House.go" s_House_go f fd) (B : Bl mg) (T : TopH K mg C) (c_place_of : Cal P w K mg base (L2.CX P w) 5 "place_of" ["seats", "guest"] (sp_place_of K C)) (c_leave_seat : Cal P w K mg base CX0 3 "leave_seat" ["seats", "at"] (sp_leave_seat K C)) (c_House_many : CalM P w K mg base CX0 1 C.cHouse "many" ["self"] (sp_House_many K C)) (c_room : Cal P w K mg base CX0 1 "room" ["count"] (sp_room K C)) (c_House_guests : CalM P w K mg base CX0 1 C.cHouse "guests" ["self"] (sp_House_guests K C)) (c_seated : Cal P w K mg base (L2.CX P w) 6 "seated" ["guests", "many"] (sp_seated K C)) :
    FnOk P w K mg base (L2.CX P w) 7 f fd ["self", "guest"] (sp_House_go K C) := by
  refine F.okX sc_House_go (fun vs H Q E h => len_House_go h) (fun cdv A outer s H vs Q E hr h => ⟨t_House_go K C E, ?_, pure_House_go T.f T.h h⟩)
  have hu := hu_of hr
  exact (pss_cons (ps_set (i := 2) sc_House_go.nd rfl (.inl rfl) (pe_fn c_place_of (hr.mono (by decide)) (passes_call (takes_of rfl rfl rfl rfl) (fun _ _ _ _ h => h)) (pa_cons (pe_fld (pv 0) rfl) (pa_cons (pv 1) pa_nil))))
      (pss_cons (ps_if (pt_cmp (pc_isN (pv 2))) (pss_one (ps_raise rfl (takes_of rfl rfl rfl rfl) (pmk_own PySem.F.excBase_ValueError (T.f.ex .away).q T.gAway (T.f.ex .away).k (raises_own (T.f.ex .away).b (T.f.ex .away).t) (by rfl)))) pss_nil)
      (pss_cons (ps_expr (pe_fn c_leave_seat (hr.mono (by decide)) pass0 (pa_cons (pe_fld (pv 0) rfl) (pa_cons (pv 2) pa_nil))))
      (pss_cons (ps_set (i := 3) sc_House_go.nd rfl (.inl rfl) (pe_fn c_room (hr.mono (by decide)) pass0 (pa_cons (CalM.use c_House_many fun f fd F hm hb => pe_meth0 (pv 0) T.h.cl hm F (hr.mono (by decide)) hb .nil pass0) pa_nil)))
      (pss_cons (ps_if (pt_cmpR op_ne (pv 3) (pe_callB call_len_seq (by rfl) B.len (by decide +kernel) (pa_cons (pe_fld (pv 0) rfl) pa_nil)) (nomark _)) (pss_one (ps_fld (pv 0) (pe_fn c_seated (hr.mono (by decide)) (passes_call (takes_of rfl rfl rfl rfl) (fun _ _ _ _ h => h)) (pa_cons (CalM.use c_House_guests fun f fd F hm hb => pe_meth0 (pv 0) T.h.cl hm F (hr.mono (by decide)) hb .nil pass0) (pa_cons (pv 3) pa_nil))) rfl)) pss_nil)
      (PSs.nox (pss_one (ps_ret (pv 2)))))))))
theorem cal_House_go {P : Program} {w : World} {K : PySem.W.Frag} {mg : Str → Option Value} {base : Heap} {C : Cs} (D : DefM K C.cHouse "go" "House.go" s_House_go) (B : Bl mg) (T : TopH K mg C) (c_place_of : Cal P w K mg base (L2.CX P w) 5 "place_of" ["seats", "guest"] (sp_place_of K C)) (c_leave_seat : Cal P w K mg base CX0 3 "leave_seat" ["seats", "at"] (sp_leave_seat K C)) (c_House_many : CalM P w K mg base CX0 1 C.cHouse "many" ["self"] (sp_House_many K C)) (c_room : Cal P w K mg base CX0 1 "room" ["count"] (sp_room K C)) (c_House_guests : CalM P w K mg base CX0 1 C.cHouse "guests" ["self"] (sp_House_guests K C)) (c_seated : Cal P w K mg base (L2.CX P w) 6 "seated" ["guests", "many"] (sp_seated K C)) :
    CalM P w K mg base (L2.CX P w) 7 C.cHouse "go" ["self", "guest"] (sp_House_go K C) := by
  obtain ⟨f, fd, F, hm⟩ := D.ex
  exact ⟨f, fd, ok_House_go F B T c_place_of c_leave_seat c_House_many c_room c_House_guests c_seated, hm, F.binds (ps := ["self", "guest"]) fun _ _ _ _ _ _ us hl => match us, hl with | [_, _], _ => rfl⟩
abbrev s_House_seat_of : Stmt := inClass (topS 22) 3
theorem sc_House_seat_of : FnScope ["self", "guest"] ["self", "guest"] (defScope s_House_seat_of) := ⟨rfl, rfl, rfl, by decide +kernel, rfl, by decide +kernel, by decide +kernel⟩
theorem ok_House_seat_of {P : Program} {w : World} {K : PySem.W.Frag} {mg : Str → Option Value} {base : Heap} {C : Cs} {f : Addr} {fd : FuncData} (F : Fun K "seat_of" "House.seat_of" s_House_seat_of f fd) (B : Bl mg) (T : TopH K mg C) (c_place_of : Cal P w K mg base (L2.CX P w) 5 "place_of" ["seats", "guest"] (sp_place_of K C)) :
    FnOk P w K mg base (L2.CX P w) 6 f fd ["self", "guest"] (sp_House_seat_of K C) := by
  refine F.okX sc_House_seat_of (fun vs H Q E h => len_House_seat_of h) (fun cdv A outer s H vs Q E hr h => ⟨t_House_seat_of K C E, ?_, pure_House_seat_of T.f T.h h⟩)
  have hu := hu_of hr
  exact (pss_one (ps_ret (pe_fn c_place_of (hr.mono (by decide)) (passes_call (takes_of rfl rfl rfl rfl) (fun _ _ _ _ h => h)) (pa_cons (pe_fld (pv 0) rfl) (pa_cons (pv 1) pa_nil)))))
theorem cal_House_seat_of {P : Program} {w : World} {K : PySem.W.Frag} {mg : Str → Option Value} {base : Heap} {C : Cs} (D : DefM K C.cHouse "seat_of" "House.seat_of" s_House_seat_of) (B : Bl mg) (T : TopH K mg C) (c_place_of : Cal P w K mg base (L2.CX P w) 5 "place_of" ["seats", "guest"] (sp_place_of K C)) :
    CalM P w K mg base (L2.CX P w) 6 C.cHouse "seat_of" ["self", "guest"] (sp_House_seat_of K C) := by
  obtain ⟨f, fd, F, hm⟩ := D.ex
  exact ⟨f, fd, ok_House_seat_of F B T c_place_of, hm, F.binds (ps := ["self", "guest"]) fun _ _ _ _ _ _ us hl => match us, hl with | [_, _], _ => rfl⟩
abbrev s_House_row : Stmt := inClass (topS 22) 4
theorem sc_House_row : FnScope ["self"] ["self"] (defScope s_House_row) := ⟨rfl, rfl, rfl, by decide +kernel, rfl, by decide +kernel, by decide +kernel⟩
theorem ok_House_row {P : Program} {w : World} {K : PySem.W.Frag} {mg : Str → Option Value} {base : Heap} {C : Cs} {f : Addr} {fd : FuncData} (F : Fun K "row" "House.row" s_House_row f fd) (B : Bl mg) (T : TopH K mg C) :
    FnOk P w K mg base CX0 1 f fd ["self"] (sp_House_row K C) := by
  refine F.ok sc_House_row (fun vs H Q E h => len_House_row h) (fun cdv A outer s H vs Q E hr h => ⟨t_House_row K C E, ?_, pure_House_row T.f T.h h⟩)
  have hu := hu_of hr
  exact (pss_one (ps_ret (pe_callTy call_list_of (by rfl) B.list (by decide +kernel) (pa_cons (pe_fld (pv 0) rfl) pa_nil))))
theorem cal_House_row {P : Program} {w : World} {K : PySem.W.Frag} {mg : Str → Option Value} {base : Heap} {C : Cs} (D : DefM K C.cHouse "row" "House.row" s_House_row) (B : Bl mg) (T : TopH K mg C) :
    CalM P w K mg base CX0 1 C.cHouse "row" ["self"] (sp_House_row K C) := by
  obtain ⟨f, fd, F, hm⟩ := D.ex
  exact ⟨f, fd, ok_House_row F B T, hm, F.binds (ps := ["self"]) fun _ _ _ _ _ _ us hl => match us, hl with | [_], _ => rfl⟩
abbrev s_House_guests : Stmt := inClass (topS 22) 5
theorem sc_House_guests : FnScope ["self", "guest"] ["self"] (defScope s_House_guests) := ⟨rfl, rfl, rfl, by decide +kernel, rfl, by decide +kernel, by decide +kernel⟩
theorem ok_House_guests {P : Program} {w : World} {K : PySem.W.Frag} {mg : Str → Option Value} {base : Heap} {C : Cs} {f : Addr} {fd : FuncData} (F : Fun K "guests" "House.guests" s_House_guests f fd) (B : Bl mg) (T : TopH K mg C) :
    FnOk P w K mg base CX0 1 f fd ["self"] (sp_House_guests K C) := by
  refine F.ok sc_House_guests (fun vs H Q E h => len_House_guests h) (fun cdv A outer s H vs Q E hr h => ⟨t_House_guests K C E, ?_, pure_House_guests T.f T.h h⟩)
  have hu := hu_of hr
  exact (pss_one (ps_ret (pe_callB cr_sortedI (by rfl) B.sorted (by decide +kernel) (pa_cons (pe_lc (own := [("guest", 1)]) (g := gName 1) rfl sc_House_guests.nd (pi_list (pe_fld (pv 0) rfl)) (blkOk_by (N := ["self", "guest"]) (sc := defScope s_House_guests) (by decide +kernel)) (fun _ _ _ _ _ => pg_name (i := 1) sc_House_guests.nd rfl (Or.inl rfl)) (fun _ _ _ _ _ => (pts_one (pt_cmp (pc_notN (pv 1))))) (fun _ _ _ _ _ => (pv 1))) pa_nil))))
theorem cal_House_guests {P : Program} {w : World} {K : PySem.W.Frag} {mg : Str → Option Value} {base : Heap} {C : Cs} (D : DefM K C.cHouse "guests" "House.guests" s_House_guests) (B : Bl mg) (T : TopH K mg C) :
    CalM P w K mg base CX0 1 C.cHouse "guests" ["self"] (sp_House_guests K C) := by
  obtain ⟨f, fd, F, hm⟩ := D.ex
  exact ⟨f, fd, ok_House_guests F B T, hm, F.binds (ps := ["self"]) fun _ _ _ _ _ _ us hl => match us, hl with | [_], _ => rfl⟩
abbrev s_House_many : Stmt := inClass (topS 22) 6
theorem sc_House_many : FnScope ["self"] ["self"] (defScope s_House_many) := ⟨rfl, rfl, rfl, by decide +kernel, rfl, by decide +kernel, by decide +kernel⟩
theorem ok_House_many {P : Program} {w : World} {K : PySem.W.Frag} {mg : Str → Option Value} {base : Heap} {C : Cs} {f : Addr} {fd : FuncData} (F : Fun K "many" "House.many" s_House_many f fd) (B : Bl mg) (T : TopH K mg C) :
    FnOk P w K mg base CX0 1 f fd ["self"] (sp_House_many K C) := by
  refine F.ok sc_House_many (fun vs H Q E h => len_House_many h) (fun cdv A outer s H vs Q E hr h => ⟨t_House_many K C E, ?_, pure_House_many T.f T.h h⟩)
  have hu := hu_of hr
  exact (pss_one (ps_ret (pe_op op_sub (pe_callB call_len_seq (by rfl) B.len (by decide +kernel) (pa_cons (pe_fld (pv 0) rfl) pa_nil)) (pe_bm PySem.F.plainAttrs_list PySem.F.slot_list_count PySem.F.type_list_count mt_countL (pe_fld (pv 0) rfl) (pa_cons pe_non pa_nil)))))
theorem cal_House_many {P : Program} {w : World} {K : PySem.W.Frag} {mg : Str → Option Value} {base : Heap} {C : Cs} (D : DefM K C.cHouse "many" "House.many" s_House_many) (B : Bl mg) (T : TopH K mg C) :
    CalM P w K mg base CX0 1 C.cHouse "many" ["self"] (sp_House_many K C) := by
  obtain ⟨f, fd, F, hm⟩ := D.ex
  exact ⟨f, fd, ok_House_many F B T, hm, F.binds (ps := ["self"]) fun _ _ _ _ _ _ us hl => match us, hl with | [_], _ => rfl⟩
abbrev s_law_cell_at : Stmt := topS 24
theorem sc_law_cell_at : FnScope ["_law_script", "_law_k"] ["_law_script", "_law_k"] (defScope s_law_cell_at) := ⟨rfl, rfl, rfl, by decide +kernel, rfl, by decide +kernel, by decide +kernel⟩
theorem ok_law_cell_at {P : Program} {w : World} {K : PySem.W.Frag} {mg : Str → Option Value} {base : Heap} {C : Cs} {f : Addr} {fd : FuncData} (F : Fun K "_law_cell_at" "_law_cell_at" s_law_cell_at f fd) (B : Bl mg) (T : TopH K mg C) :
    FnOk P w K mg base CX0 1 f fd ["_law_script", "_law_k"] (sp_law_cell_at K C) := by
  refine F.ok sc_law_cell_at (fun vs H Q E h => len_law_cell_at h) (fun cdv A outer s H vs Q E hr h => ⟨t_law_cell_at K C E, ?_, pure_law_cell_at T.f T.h h⟩)
  have hu := hu_of hr
  exact (pss_cons (ps_if (pt_cmpR op_lt (pv 1) (pe_callB call_len_seq (by rfl) B.len (by decide +kernel) (pa_cons (pv 0) pa_nil)) (nomark _)) (pss_one (ps_ret (pe_ix ix_list (pv 0) (pv 1) (fun _ _ => rfl)))) pss_nil)
      (pss_one (ps_ret pe_int)))
theorem cal_law_cell_at {P : Program} {w : World} {K : PySem.W.Frag} {mg : Str → Option Value} {base : Heap} {C : Cs} (D : Def K mg "_law_cell_at" s_law_cell_at) (B : Bl mg) (T : TopH K mg C) :
    Cal P w K mg base CX0 1 "_law_cell_at" ["_law_script", "_law_k"] (sp_law_cell_at K C) := by
  obtain ⟨f, fd, F, hm⟩ := D.ex
  exact ⟨f, fd, ok_law_cell_at F B T, hm, F.kp, F.binds (ps := ["_law_script", "_law_k"]) fun _ _ _ _ _ _ us hl => match us, hl with | [_, _], _ => rfl⟩
abbrev s_law_whole : Stmt := topS 25
theorem sc_law_whole : FnScope ["_law_found"] ["_law_found"] (defScope s_law_whole) := ⟨rfl, rfl, rfl, by decide +kernel, rfl, by decide +kernel, by decide +kernel⟩
theorem ok_law_whole {P : Program} {w : World} {K : PySem.W.Frag} {mg : Str → Option Value} {base : Heap} {C : Cs} {f : Addr} {fd : FuncData} (F : Fun K "_law_whole" "_law_whole" s_law_whole f fd) (B : Bl mg) (T : TopH K mg C) :
    FnOk P w K mg base CX0 1 f fd ["_law_found"] (sp_law_whole K C) := by
  refine F.ok sc_law_whole (fun vs H Q E h => len_law_whole h) (fun cdv A outer s H vs Q E hr h => ⟨t_law_whole K C E, ?_, pure_law_whole T.f T.h h⟩)
  have hu := hu_of hr
  exact (pss_one (ps_ret (pe_and (pe_callB call_isA (by rfl) B.isinstance (by decide +kernel) (pa_cons (pv 0) (pa_cons (pe_bltn (v := .ty "int") (by rfl) B.int (by decide +kernel) rfl) pa_nil))) (pe_one (pe_not (pe_callB call_isA (by rfl) B.isinstance (by decide +kernel) (pa_cons (pv 0) (pa_cons (pe_bltn (v := .ty "bool") (by rfl) B.bool (by decide +kernel) rfl) pa_nil))))))))
theorem cal_law_whole {P : Program} {w : World} {K : PySem.W.Frag} {mg : Str → Option Value} {base : Heap} {C : Cs} (D : Def K mg "_law_whole" s_law_whole) (B : Bl mg) (T : TopH K mg C) :
    Cal P w K mg base CX0 1 "_law_whole" ["_law_found"] (sp_law_whole K C) := by
  obtain ⟨f, fd, F, hm⟩ := D.ex
  exact ⟨f, fd, ok_law_whole F B T, hm, F.kp, F.binds (ps := ["_law_found"]) fun _ _ _ _ _ _ us hl => match us, hl with | [_], _ => rfl⟩
abbrev s_law_home : Stmt := topS 26
theorem sc_law_home : FnScope ["_law_guest", "_law_many"] ["_law_guest", "_law_many"] (defScope s_law_home) := ⟨rfl, rfl, rfl, by decide +kernel, rfl, by decide +kernel, by decide +kernel⟩
theorem ok_law_home {P : Program} {w : World} {K : PySem.W.Frag} {mg : Str → Option Value} {base : Heap} {C : Cs} {f : Addr} {fd : FuncData} (F : Fun K "_law_home" "_law_home" s_law_home f fd) (B : Bl mg) (T : TopH K mg C) :
    FnOk P w K mg base CX0 1 f fd ["_law_guest", "_law_many"] (sp_law_home K C) := by
  refine F.ok sc_law_home (fun vs H Q E h => len_law_home h) (fun cdv A outer s H vs Q E hr h => ⟨t_law_home K C E, ?_, pure_law_home T.f T.h h⟩)
  have hu := hu_of hr
  exact (pss_one (ps_ret (pe_op op_mod (pe_op op_mod (pe_op op_add (pe_op op_mulL (pv 0) pe_int) (pe_op op_fdiv (pv 0) pe_int)) pe_int) (pv 1))))
theorem cal_law_home {P : Program} {w : World} {K : PySem.W.Frag} {mg : Str → Option Value} {base : Heap} {C : Cs} (D : Def K mg "_law_home" s_law_home) (B : Bl mg) (T : TopH K mg C) :
    Cal P w K mg base CX0 1 "_law_home" ["_law_guest", "_law_many"] (sp_law_home K C) := by
  obtain ⟨f, fd, F, hm⟩ := D.ex
  exact ⟨f, fd, ok_law_home F B T, hm, F.kp, F.binds (ps := ["_law_guest", "_law_many"]) fun _ _ _ _ _ _ us hl => match us, hl with | [_, _], _ => rfl⟩
abbrev s_law_settled : Stmt := topS 27
theorem sc_law_settled : FnScope ["_law_seats", "_law_guests", "_law_many", "_law_at", "_law_way", "_law_before", "_law_guest"] ["_law_seats", "_law_guests"] (defScope s_law_settled) := ⟨rfl, rfl, rfl, by decide +kernel, rfl, by decide +kernel, by decide +kernel⟩
theorem ok_law_settled {P : Program} {w : World} {K : PySem.W.Frag} {mg : Str → Option Value} {base : Heap} {C : Cs} {f : Addr} {fd : FuncData} (F : Fun K "_law_settled" "_law_settled" s_law_settled f fd) (B : Bl mg) (T : TopH K mg C) (c_law_whole : Cal P w K mg base CX0 1 "_law_whole" ["_law_found"] (sp_law_whole K C)) (c_law_home : Cal P w K mg base CX0 1 "_law_home" ["_law_guest", "_law_many"] (sp_law_home K C)) :
    FnOk P w K mg base CX0 2 f fd ["_law_seats", "_law_guests"] (sp_law_settled K C) := by
  refine F.ok sc_law_settled (fun vs H Q E h => len_law_settled h) (fun cdv A outer s H vs Q E hr h => ⟨t_law_settled K C E, ?_, pure_law_settled T.f T.h h⟩)
  have hu := hu_of hr
  exact (pss_cons (ps_set (i := 2) sc_law_settled.nd rfl (.inl rfl) pe_int)
      (pss_cons (ps_while PassesOwn.never (pt_cmpR op_gt (pe_op op_mulL pe_int (pe_callB call_len_seq (by rfl) B.len (by decide +kernel) (pa_cons (pv 1) pa_nil))) (pe_op op_mulL pe_int (pv 2)) (nomark _)) (pss_one (ps_set (i := 2) sc_law_settled.nd rfl (.inl rfl) (pe_op op_mulL (pv 2) pe_int))))
      (pss_cons (ps_if (PW.pt (pw_or (pt_not (pt_val (pe_callB call_isA (by rfl) B.isinstance (by decide +kernel) (pa_cons (pv 0) (pa_cons (pe_bltn (v := .ty "list") (by rfl) B.list (by decide +kernel) rfl) pa_nil))))) (pw_or (pt_cmpR op_ne (pe_callB call_len_seq (by rfl) B.len (by decide +kernel) (pa_cons (pv 0) pa_nil)) (pv 2) (nomark _)) (pw_or1 (pt_cmpR op_notIn_seq pe_non (pv 0) (by rfl)))))) (pss_one (ps_ret pe_bl)) pss_nil)
      (pss_cons (ps_for PassesOwn.never rfl (pi_range1 (by rfl) B.range (pa_cons (pv 2) pa_nil)) (pg_name (i := 3) sc_law_settled.nd rfl (.inl rfl)) (pss_one (ps_if (pt_cmp (pc_notN (pe_ix ix_list (pv 0) (pv 3) (fun _ _ => rfl)))) (pss_cons (ps_if (pt_not (pt_val (pe_fn c_law_whole (hr.mono (by decide)) pass0 (pa_cons (pe_ix ix_list (pv 0) (pv 3) (fun _ _ => rfl)) pa_nil)))) (pss_one (ps_ret pe_bl)) pss_nil)
      (pss_cons (ps_set (i := 4) sc_law_settled.nd rfl (.inl rfl) (pe_op op_mod (pe_op op_sub (pv 3) (pe_fn c_law_home (hr.mono (by decide)) pass0 (pa_cons (pe_ix ix_list (pv 0) (pv 3) (fun _ _ => rfl)) (pa_cons (pv 2) pa_nil)))) (pv 2)))
      (pss_cons (ps_if (PW.pt (pw_and (pt_cmpR op_gt (pv 4) pe_int (nomark _)) (pw_and1 (pt_cmp (pc_isN (pe_ix ix_list (pv 0) (pe_op op_sub (pv 3) pe_int) (fun _ _ => rfl))))))) (pss_one (ps_ret pe_bl)) pss_nil)
      (pss_one (ps_if (pt_cmpR op_gt (pv 4) pe_int (nomark _)) (pss_cons (ps_set (i := 5) sc_law_settled.nd rfl (.inl rfl) (pe_op op_add (pe_op op_mod (pe_op op_sub (pe_op op_sub (pv 3) pe_int) (pe_fn c_law_home (hr.mono (by decide)) pass0 (pa_cons (pe_ix ix_list (pv 0) (pe_op op_sub (pv 3) pe_int) (fun _ _ => rfl)) (pa_cons (pv 2) pa_nil)))) (pv 2)) pe_int))
      (pss_one (ps_if (PW.pt (pw_or (pt_cmpR op_lt (pv 5) (pv 4) (nomark _)) (pw_or1 (PW.pt (pw_and (pt_cmpR op_eq (pv 5) (pv 4) (nomark _)) (pw_and1 (pt_cmpR op_ge (pe_ix ix_list (pv 0) (pe_op op_sub (pv 3) pe_int) (fun _ _ => rfl)) (pe_ix ix_list (pv 0) (pv 3) (fun _ _ => rfl)) (nomark _)))))))) (pss_one (ps_ret pe_bl)) pss_nil))) pss_nil))))) pss_nil)))
      (pss_one (ps_ret (pe_cmpR (op_eqD hr.units) (pe_callB cr_sortedI (by rfl) B.sorted (by decide +kernel) (pa_cons (pe_lc (own := [("_law_guest", 6)]) (g := gName 6) rfl sc_law_settled.nd (pi_list (pv 0)) (blkOk_by (N := ["_law_seats", "_law_guests", "_law_many", "_law_at", "_law_way", "_law_before", "_law_guest"]) (sc := defScope s_law_settled) (by decide +kernel)) (fun _ _ _ _ _ => pg_name (i := 6) sc_law_settled.nd rfl (Or.inl rfl)) (fun _ _ _ _ _ => (pts_one (pt_cmp (pc_notN (pv 6))))) (fun _ _ _ _ _ => (pv 6))) pa_nil)) (pe_callB cr_sortedI (by rfl) B.sorted (by decide +kernel) (pa_cons (pv 1) pa_nil)) (nomark _))))))))
theorem cal_law_settled {P : Program} {w : World} {K : PySem.W.Frag} {mg : Str → Option Value} {base : Heap} {C : Cs} (D : Def K mg "_law_settled" s_law_settled) (B : Bl mg) (T : TopH K mg C) (c_law_whole : Cal P w K mg base CX0 1 "_law_whole" ["_law_found"] (sp_law_whole K C)) (c_law_home : Cal P w K mg base CX0 1 "_law_home" ["_law_guest", "_law_many"] (sp_law_home K C)) :
    Cal P w K mg base CX0 2 "_law_settled" ["_law_seats", "_law_guests"] (sp_law_settled K C) := by
  obtain ⟨f, fd, F, hm⟩ := D.ex
  exact ⟨f, fd, ok_law_settled F B T c_law_whole c_law_home, hm, F.kp, F.binds (ps := ["_law_seats", "_law_guests"]) fun _ _ _ _ _ _ us hl => match us, hl with | [_, _], _ => rfl⟩
abbrev s_law_size : Stmt := topS 28
theorem sc_law_size : FnScope ["_law_cell", "_law_number", "_law_some"] ["_law_cell"] (defScope s_law_size) := ⟨rfl, rfl, rfl, by decide +kernel, rfl, by decide +kernel, by decide +kernel⟩
theorem ok_law_size {P : Program} {w : World} {K : PySem.W.Frag} {mg : Str → Option Value} {base : Heap} {C : Cs} {f : Addr} {fd : FuncData} (F : Fun K "_law_size" "_law_size" s_law_size f fd) (B : Bl mg) (T : TopH K mg C) :
    FnOk P w K mg base CX0 1 f fd ["_law_cell"] (sp_law_size K C) := by
  refine F.ok sc_law_size (fun vs H Q E h => len_law_size h) (fun cdv A outer s H vs Q E hr h => ⟨t_law_size K C E, ?_, pure_law_size T.f T.h h⟩)
  have hu := hu_of hr
  exact (pss_cons (ps_set (i := 1) sc_law_size.nd rfl (.inl rfl) (pe_op op_mod (pe_op op_fdiv (pv 0) pe_int) (pe_pow (m := 10) (n := 40) (N := 10000000000000000000000000000000000000000) rfl rfl (by decide +kernel) (by decide) (by decide))))
      (pss_cons (ps_set (i := 2) sc_law_size.nd rfl (.inl rfl) (pe_lst (pa_cons pe_bl (pa_cons pe_bl (pa_cons pe_non (pa_cons pe_str (pa_cons pe_str (pa_cons (pe_lst (pa_cons pe_int pa_nil)) (pa_cons (pe_tup (pa_cons pe_int pa_nil)) (pa_cons pe_dnewK (pa_cons (pe_un un_neg pe_int) (pa_cons pe_int (pa_cons (pe_op op_sub (pe_un un_neg pe_int) (pv 1)) (pa_cons (pe_op op_add pe_int (pv 1)) (pa_cons (pe_lst pa_nil) pa_nil)))))))))))))))
      (pss_one (ps_ret (pe_ix ix_list (pv 2) (pe_op op_mod (pv 0) pe_int) (fun _ _ => rfl))))))
theorem cal_law_size {P : Program} {w : World} {K : PySem.W.Frag} {mg : Str → Option Value} {base : Heap} {C : Cs} (D : Def K mg "_law_size" s_law_size) (B : Bl mg) (T : TopH K mg C) :
    Cal P w K mg base CX0 1 "_law_size" ["_law_cell"] (sp_law_size K C) := by
  obtain ⟨f, fd, F, hm⟩ := D.ex
  exact ⟨f, fd, ok_law_size F B T, hm, F.kp, F.binds (ps := ["_law_cell"]) fun _ _ _ _ _ _ us hl => match us, hl with | [_], _ => rfl⟩
abbrev s_law_odd : Stmt := topS 29
theorem sc_law_odd : FnScope ["_law_cell", "_law_number", "_law_some"] ["_law_cell"] (defScope s_law_odd) := ⟨rfl, rfl, rfl, by decide +kernel, rfl, by decide +kernel, by decide +kernel⟩
theorem ok_law_odd {P : Program} {w : World} {K : PySem.W.Frag} {mg : Str → Option Value} {base : Heap} {C : Cs} {f : Addr} {fd : FuncData} (F : Fun K "_law_odd" "_law_odd" s_law_odd f fd) (B : Bl mg) (T : TopH K mg C) :
    FnOk P w K mg base CX0 1 f fd ["_law_cell"] (sp_law_odd K C) := by
  refine F.ok sc_law_odd (fun vs H Q E h => len_law_odd h) (fun cdv A outer s H vs Q E hr h => ⟨t_law_odd K C E, ?_, pure_law_odd T.f T.h h⟩)
  have hu := hu_of hr
  exact (pss_cons (ps_set (i := 1) sc_law_odd.nd rfl (.inl rfl) (pe_op op_mod (pe_op op_fdiv (pv 0) pe_int) (pe_pow (m := 10) (n := 40) (N := 10000000000000000000000000000000000000000) rfl rfl (by decide +kernel) (by decide) (by decide))))
      (pss_cons (ps_set (i := 2) sc_law_odd.nd rfl (.inl rfl) (pe_lst (pa_cons pe_bl (pa_cons pe_bl (pa_cons pe_non (pa_cons pe_str (pa_cons pe_str (pa_cons (pe_lst (pa_cons pe_int pa_nil)) (pa_cons (pe_tup (pa_cons pe_int pa_nil)) (pa_cons pe_dnewK (pa_cons (pe_un un_neg pe_int) (pa_cons (pe_pow (m := 10) (n := 60) (N := 1000000000000000000000000000000000000000000000000000000000000) rfl rfl (by decide +kernel) (by decide) (by decide)) (pa_cons (pe_op op_sub (pe_un un_neg pe_int) (pv 1)) (pa_cons (pe_op op_add (pe_op op_add (pe_pow (m := 10) (n := 60) (N := 1000000000000000000000000000000000000000000000000000000000000) rfl rfl (by decide +kernel) (by decide) (by decide)) pe_int) (pv 1)) (pa_cons (pe_lst pa_nil) pa_nil)))))))))))))))
      (pss_one (ps_ret (pe_ix ix_list (pv 2) (pe_op op_mod (pv 0) pe_int) (fun _ _ => rfl))))))
theorem cal_law_odd {P : Program} {w : World} {K : PySem.W.Frag} {mg : Str → Option Value} {base : Heap} {C : Cs} (D : Def K mg "_law_odd" s_law_odd) (B : Bl mg) (T : TopH K mg C) :
    Cal P w K mg base CX0 1 "_law_odd" ["_law_cell"] (sp_law_odd K C) := by
  obtain ⟨f, fd, F, hm⟩ := D.ex
  exact ⟨f, fd, ok_law_odd F B T, hm, F.kp, F.binds (ps := ["_law_cell"]) fun _ _ _ _ _ _ us hl => match us, hl with | [_], _ => rfl⟩
abbrev s_law_kinds : Stmt := topS 30
theorem sc_law_kinds : FnScope ["_law_e", "_law_base"] ["_law_e"] (defScope s_law_kinds) := ⟨rfl, rfl, rfl, by decide +kernel, rfl, by decide +kernel, by decide +kernel⟩
theorem ok_law_kinds {P : Program} {w : World} {K : PySem.W.Frag} {mg : Str → Option Value} {base : Heap} {C : Cs} {f : Addr} {fd : FuncData} (F : Fun K "_law_kinds" "_law_kinds" s_law_kinds f fd) (B : Bl mg) (T : TopH K mg C) :
    FnE P w K mg base 1 f fd ["_law_e"] (sp_law_kinds K C) := by
  refine okE F sc_law_kinds (fun a cls d vs H Q E h => len_law_kinds h) (fun cdv A outer s H vs Q E a oe cls d hz hf h => ⟨t_law_kinds K C E a cls d, ?_, pure_law_kinds T.f T.h h⟩)
  exact (pss_cons (ps_set (i := 1) sc_law_kinds.nd rfl (.inl rfl) (pe_callB (call_isP T.f hz hf (List.mem_singleton.mpr rfl)) (by rfl) B.isinstance (by decide +kernel) (pa_cons (pv 0) (pa_cons (pe_bltn (v := .ty "ValueError") (by rfl) B.ValueError (by decide +kernel) rfl) pa_nil))))
      (pss_one (ps_ret (pe_lst (pa_cons (pe_callB (call_isP T.f hz hf (List.mem_singleton.mpr rfl)) (by rfl) B.isinstance (by decide +kernel) (pa_cons (pv 0) (pa_cons (pe_glob (v := .ref C.cNoGuest) (by rfl) T.gNoGuest rfl) pa_nil))) (pa_cons (pe_callB (call_isP T.f hz hf (List.mem_singleton.mpr rfl)) (by rfl) B.isinstance (by decide +kernel) (pa_cons (pv 0) (pa_cons (pe_glob (v := .ref C.cNoSize) (by rfl) T.gNoSize rfl) pa_nil))) (pa_cons (pe_callB (call_isP T.f hz hf (List.mem_singleton.mpr rfl)) (by rfl) B.isinstance (by decide +kernel) (pa_cons (pv 0) (pa_cons (pe_glob (v := .ref C.cTwice) (by rfl) T.gTwice rfl) pa_nil))) (pa_cons (pe_callB (call_isP T.f hz hf (List.mem_singleton.mpr rfl)) (by rfl) B.isinstance (by decide +kernel) (pa_cons (pv 0) (pa_cons (pe_glob (v := .ref C.cAway) (by rfl) T.gAway rfl) pa_nil))) (pa_cons (pe_callB (call_isP T.f hz hf (List.mem_singleton.mpr rfl)) (by rfl) B.isinstance (by decide +kernel) (pa_cons (pv 0) (pa_cons (pe_glob (v := .ref C.cFull) (by rfl) T.gFull rfl) pa_nil))) (pa_cons (pv 1) pa_nil))))))))))
theorem cal_law_kinds {P : Program} {w : World} {K : PySem.W.Frag} {mg : Str → Option Value} {base : Heap} {C : Cs} (D : Def K mg "_law_kinds" s_law_kinds) (B : Bl mg) (T : TopH K mg C) :
    CalE P w K mg base 1 "_law_kinds" ["_law_e"] (sp_law_kinds K C) := by
  obtain ⟨f, fd, F, hm⟩ := D.ex
  exact ⟨f, fd, ok_law_kinds F B T, hm, F.kp, F.binds (ps := ["_law_e"]) fun _ _ _ _ _ _ us hl => match us, hl with | [_], _ => rfl⟩
abbrev s_law_only : Stmt := topS 31
theorem sc_law_only : FnScope ["_law_at", "_law_k"] ["_law_at"] (defScope s_law_only) := ⟨rfl, rfl, rfl, by decide +kernel, rfl, by decide +kernel, by decide +kernel⟩
theorem ok_law_only {P : Program} {w : World} {K : PySem.W.Frag} {mg : Str → Option Value} {base : Heap} {C : Cs} {f : Addr} {fd : FuncData} (F : Fun K "_law_only" "_law_only" s_law_only f fd) (B : Bl mg) (T : TopH K mg C) :
    FnOk P w K mg base CX0 1 f fd ["_law_at"] (sp_law_only K C) := by
  refine F.ok sc_law_only (fun vs H Q E h => len_law_only h) (fun cdv A outer s H vs Q E hr h => ⟨t_law_only K C E, ?_, pure_law_only T.f T.h h⟩)
  have hu := hu_of hr
  exact (pss_one (ps_ret (pe_lc (own := [("_law_k", 1)]) (g := gName 1) rfl sc_law_only.nd (pi_range1 (by rfl) B.range (pa_cons pe_int pa_nil)) (blkOk_by (N := ["_law_at", "_law_k"]) (sc := defScope s_law_only) (by decide +kernel)) (fun _ _ _ _ _ => pg_name (i := 1) sc_law_only.nd rfl (Or.inl rfl)) (fun _ _ _ _ _ => pts_nil) (fun _ _ _ _ _ => (pe_or (pe_cmpR op_eq (pv 1) (pv 0) (nomark _)) (pe_one (pe_cmpR op_eq (pv 1) pe_int (nomark _))))))))
theorem cal_law_only {P : Program} {w : World} {K : PySem.W.Frag} {mg : Str → Option Value} {base : Heap} {C : Cs} (D : Def K mg "_law_only" s_law_only) (B : Bl mg) (T : TopH K mg C) :
    Cal P w K mg base CX0 1 "_law_only" ["_law_at"] (sp_law_only K C) := by
  obtain ⟨f, fd, F, hm⟩ := D.ex
  exact ⟨f, fd, ok_law_only F B T, hm, F.kp, F.binds (ps := ["_law_at"]) fun _ _ _ _ _ _ us hl => match us, hl with | [_], _ => rfl⟩
abbrev s_law_made : Stmt := topS 32
theorem sc_law_made : FnScope ["_law_size_here", "_law_e"] ["_law_size_here"] (defScope s_law_made) := ⟨rfl, rfl, rfl, by decide +kernel, rfl, by decide +kernel, by decide +kernel⟩
theorem ok_law_made {P : Program} {w : World} {K : PySem.W.Frag} {mg : Str → Option Value} {base : Heap} {C : Cs} {f : Addr} {fd : FuncData} (F : Fun K "_law_made" "_law_made" s_law_made f fd) (B : Bl mg) (T : TopH K mg C) (c_House_init : CalI P w K mg base 2 C.cHouse ["self", "most"] (.int 96) (sp_House_init K C)) (c_law_kinds : CalE P w K mg base 1 "_law_kinds" ["_law_e"] (sp_law_kinds K C)) :
    FnOk P w K mg base CX0 4 f fd ["_law_size_here"] (sp_law_made K C) := by
  refine F.ok sc_law_made (fun vs H Q E h => len_law_made h) (fun cdv A outer s H vs Q E hr h => ⟨t_law_made K C E, ?_, pure_law_made T.f T.h h⟩)
  have hu := hu_of hr
  exact (pss_cons (ps_try_as (i := 1) (tb := t_law_made_b1_try K C E) (ts := t_law_made_b1_exc K C E) rfl rfl sc_law_made.nd rfl rfl ⟨rfl, by decide, .inl T.gRingError⟩ takes0 (fun W pn xe tk _ => (pss_one (ps_expr (CalI.use c_House_init fun f fd F hm hb hd => pe_makeW hm F (hr.mono (by decide)) (by rfl) T.gHouse hb (fun σ => passAt tk σ) (pa_cons (pv 0) pa_nil))))) (fun a oe cls d pn hz hf => (pss_one (ps_ret (pe_fnE c_law_kinds (hr.mono (by decide)) hz hf (pa_cons (pv 1) pa_nil))))))
      (pss_one (ps_ret (pe_lst pa_nil))))
theorem cal_law_made {P : Program} {w : World} {K : PySem.W.Frag} {mg : Str → Option Value} {base : Heap} {C : Cs} (D : Def K mg "_law_made" s_law_made) (B : Bl mg) (T : TopH K mg C) (c_House_init : CalI P w K mg base 2 C.cHouse ["self", "most"] (.int 96) (sp_House_init K C)) (c_law_kinds : CalE P w K mg base 1 "_law_kinds" ["_law_e"] (sp_law_kinds K C)) :
    Cal P w K mg base CX0 4 "_law_made" ["_law_size_here"] (sp_law_made K C) := by
  obtain ⟨f, fd, F, hm⟩ := D.ex
  exact ⟨f, fd, ok_law_made F B T c_House_init c_law_kinds, hm, F.kp, F.binds (ps := ["_law_size_here"]) fun _ _ _ _ _ _ us hl => match us, hl with | [_], _ => rfl⟩
abbrev s_law_comes : Stmt := topS 33
theorem sc_law_comes : FnScope ["_law_house_here", "_law_guest", "_law_e"] ["_law_house_here", "_law_guest"] (defScope s_law_comes) := ⟨rfl, rfl, rfl, by decide +kernel, rfl, by decide +kernel, by decide +kernel⟩
theorem ok_law_comes {P : Program} {w : World} {K : PySem.W.Frag} {mg : Str → Option Value} {base : Heap} {C : Cs} {f : Addr} {fd : FuncData} (F : Fun K "_law_comes" "_law_comes" s_law_comes f fd) (B : Bl mg) (T : TopH K mg C) (c_House_come : CalM P w K mg base (L2.CX P w) 7 C.cHouse "come" ["self", "guest"] (sp_House_come K C)) (c_law_kinds : CalE P w K mg base 1 "_law_kinds" ["_law_e"] (sp_law_kinds K C)) :
    FnOk P w K mg base CX0 8 f fd ["_law_house_here", "_law_guest"] (sp_law_comes K C) := by
  refine F.ok sc_law_comes (fun vs H Q E h => len_law_comes h) (fun cdv A outer s H vs Q E hr h => ⟨t_law_comes K C E, ?_, pure_law_comes T.f T.h h⟩)
  have hu := hu_of hr
  exact (pss_cons (ps_try_as (i := 2) (tb := t_law_comes_b1_try K C E) (ts := t_law_comes_b1_exc K C E) rfl rfl sc_law_comes.nd rfl rfl ⟨rfl, by decide, .inl T.gRingError⟩ takes0 (fun W pn xe tk _ => (pss_one (ps_expr (CalM.use c_House_come fun f fd F hm hb => pe_methW (pv 0) T.h.cl hm F (hr.mono (by decide)) hb (fun σ => passAt tk σ) (pa_cons (pv 1) pa_nil))))) (fun a oe cls d pn hz hf => (pss_one (ps_ret (pe_fnE c_law_kinds (hr.mono (by decide)) hz hf (pa_cons (pv 2) pa_nil))))))
      (pss_one (ps_ret (pe_lst pa_nil))))
theorem cal_law_comes {P : Program} {w : World} {K : PySem.W.Frag} {mg : Str → Option Value} {base : Heap} {C : Cs} (D : Def K mg "_law_comes" s_law_comes) (B : Bl mg) (T : TopH K mg C) (c_House_come : CalM P w K mg base (L2.CX P w) 7 C.cHouse "come" ["self", "guest"] (sp_House_come K C)) (c_law_kinds : CalE P w K mg base 1 "_law_kinds" ["_law_e"] (sp_law_kinds K C)) :
    Cal P w K mg base CX0 8 "_law_comes" ["_law_house_here", "_law_guest"] (sp_law_comes K C) := by
  obtain ⟨f, fd, F, hm⟩ := D.ex
  exact ⟨f, fd, ok_law_comes F B T c_House_come c_law_kinds, hm, F.kp, F.binds (ps := ["_law_house_here", "_law_guest"]) fun _ _ _ _ _ _ us hl => match us, hl with | [_, _], _ => rfl⟩
abbrev s_law_goes : Stmt := topS 34
theorem sc_law_goes : FnScope ["_law_house_here", "_law_guest", "_law_e"] ["_law_house_here", "_law_guest"] (defScope s_law_goes) := ⟨rfl, rfl, rfl, by decide +kernel, rfl, by decide +kernel, by decide +kernel⟩
theorem ok_law_goes {P : Program} {w : World} {K : PySem.W.Frag} {mg : Str → Option Value} {base : Heap} {C : Cs} {f : Addr} {fd : FuncData} (F : Fun K "_law_goes" "_law_goes" s_law_goes f fd) (B : Bl mg) (T : TopH K mg C) (c_House_go : CalM P w K mg base (L2.CX P w) 7 C.cHouse "go" ["self", "guest"] (sp_House_go K C)) (c_law_kinds : CalE P w K mg base 1 "_law_kinds" ["_law_e"] (sp_law_kinds K C)) :
    FnOk P w K mg base CX0 8 f fd ["_law_house_here", "_law_guest"] (sp_law_goes K C) := by
  refine F.ok sc_law_goes (fun vs H Q E h => len_law_goes h) (fun cdv A outer s H vs Q E hr h => ⟨t_law_goes K C E, ?_, pure_law_goes T.f T.h h⟩)
  have hu := hu_of hr
  exact (pss_cons (ps_try_as (i := 2) (tb := t_law_goes_b1_try K C E) (ts := t_law_goes_b1_exc K C E) rfl rfl sc_law_goes.nd rfl rfl ⟨rfl, by decide, .inl T.gRingError⟩ takes0 (fun W pn xe tk _ => (pss_one (ps_expr (CalM.use c_House_go fun f fd F hm hb => pe_methW (pv 0) T.h.cl hm F (hr.mono (by decide)) hb (fun σ => passAt tk σ) (pa_cons (pv 1) pa_nil))))) (fun a oe cls d pn hz hf => (pss_one (ps_ret (pe_fnE c_law_kinds (hr.mono (by decide)) hz hf (pa_cons (pv 2) pa_nil))))))
      (pss_one (ps_ret (pe_lst pa_nil))))
theorem cal_law_goes {P : Program} {w : World} {K : PySem.W.Frag} {mg : Str → Option Value} {base : Heap} {C : Cs} (D : Def K mg "_law_goes" s_law_goes) (B : Bl mg) (T : TopH K mg C) (c_House_go : CalM P w K mg base (L2.CX P w) 7 C.cHouse "go" ["self", "guest"] (sp_House_go K C)) (c_law_kinds : CalE P w K mg base 1 "_law_kinds" ["_law_e"] (sp_law_kinds K C)) :
    Cal P w K mg base CX0 8 "_law_goes" ["_law_house_here", "_law_guest"] (sp_law_goes K C) := by
  obtain ⟨f, fd, F, hm⟩ := D.ex
  exact ⟨f, fd, ok_law_goes F B T c_House_go c_law_kinds, hm, F.kp, F.binds (ps := ["_law_house_here", "_law_guest"]) fun _ _ _ _ _ _ us hl => match us, hl with | [_, _], _ => rfl⟩
abbrev s_law_looked_for : Stmt := topS 35
theorem sc_law_looked_for : FnScope ["_law_house_here", "_law_guest", "_law_e"] ["_law_house_here", "_law_guest"] (defScope s_law_looked_for) := ⟨rfl, rfl, rfl, by decide +kernel, rfl, by decide +kernel, by decide +kernel⟩
theorem ok_law_looked_for {P : Program} {w : World} {K : PySem.W.Frag} {mg : Str → Option Value} {base : Heap} {C : Cs} {f : Addr} {fd : FuncData} (F : Fun K "_law_looked_for" "_law_looked_for" s_law_looked_for f fd) (B : Bl mg) (T : TopH K mg C) (c_House_seat_of : CalM P w K mg base (L2.CX P w) 6 C.cHouse "seat_of" ["self", "guest"] (sp_House_seat_of K C)) (c_law_kinds : CalE P w K mg base 1 "_law_kinds" ["_law_e"] (sp_law_kinds K C)) :
    FnOk P w K mg base CX0 7 f fd ["_law_house_here", "_law_guest"] (sp_law_looked_for K C) := by
  refine F.ok sc_law_looked_for (fun vs H Q E h => len_law_looked_for h) (fun cdv A outer s H vs Q E hr h => ⟨t_law_looked_for K C E, ?_, pure_law_looked_for T.f T.h h⟩)
  have hu := hu_of hr
  exact (pss_cons (ps_try_as (i := 2) (tb := t_law_looked_for_b1_try K C E) (ts := t_law_looked_for_b1_exc K C E) rfl rfl sc_law_looked_for.nd rfl rfl ⟨rfl, by decide, .inl T.gRingError⟩ takes0 (fun W pn xe tk _ => (pss_one (ps_expr (CalM.use c_House_seat_of fun f fd F hm hb => pe_methW (pv 0) T.h.cl hm F (hr.mono (by decide)) hb (fun σ => passAt tk σ) (pa_cons (pv 1) pa_nil))))) (fun a oe cls d pn hz hf => (pss_one (ps_ret (pe_fnE c_law_kinds (hr.mono (by decide)) hz hf (pa_cons (pv 2) pa_nil))))))
      (pss_one (ps_ret (pe_lst pa_nil))))
theorem cal_law_looked_for {P : Program} {w : World} {K : PySem.W.Frag} {mg : Str → Option Value} {base : Heap} {C : Cs} (D : Def K mg "_law_looked_for" s_law_looked_for) (B : Bl mg) (T : TopH K mg C) (c_House_seat_of : CalM P w K mg base (L2.CX P w) 6 C.cHouse "seat_of" ["self", "guest"] (sp_House_seat_of K C)) (c_law_kinds : CalE P w K mg base 1 "_law_kinds" ["_law_e"] (sp_law_kinds K C)) :
    Cal P w K mg base CX0 7 "_law_looked_for" ["_law_house_here", "_law_guest"] (sp_law_looked_for K C) := by
  obtain ⟨f, fd, F, hm⟩ := D.ex
  exact ⟨f, fd, ok_law_looked_for F B T c_House_seat_of c_law_kinds, hm, F.kp, F.binds (ps := ["_law_house_here", "_law_guest"]) fun _ _ _ _ _ _ us hl => match us, hl with | [_, _], _ => rfl⟩
abbrev s_law_sits : Stmt := topS 36
theorem sc_law_sits : FnScope ["_law_house_here", "_law_guest", "_law_at", "_law_seats"] ["_law_house_here", "_law_guest"] (defScope s_law_sits) := ⟨rfl, rfl, rfl, by decide +kernel, rfl, by decide +kernel, by decide +kernel⟩
theorem ok_law_sits {P : Program} {w : World} {K : PySem.W.Frag} {mg : Str → Option Value} {base : Heap} {C : Cs} {f : Addr} {fd : FuncData} (F : Fun K "_law_sits" "_law_sits" s_law_sits f fd) (B : Bl mg) (T : TopH K mg C) (c_House_come : CalM P w K mg base (L2.CX P w) 7 C.cHouse "come" ["self", "guest"] (sp_House_come K C)) (c_House_row : CalM P w K mg base CX0 1 C.cHouse "row" ["self"] (sp_House_row K C)) (c_law_whole : Cal P w K mg base CX0 1 "_law_whole" ["_law_found"] (sp_law_whole K C)) (c_House_seat_of : CalM P w K mg base (L2.CX P w) 6 C.cHouse "seat_of" ["self", "guest"] (sp_House_seat_of K C)) :
    FnOk P w K mg base CX0 8 f fd ["_law_house_here", "_law_guest"] (sp_law_sits K C) := by
  refine F.ok sc_law_sits (fun vs H Q E h => len_law_sits h) (fun cdv A outer s H vs Q E hr h => ⟨t_law_sits K C E, ?_, pure_law_sits T.f T.h h⟩)
  have hu := hu_of hr
  exact (pss_cons (ps_set (i := 2) sc_law_sits.nd rfl (.inl rfl) (CalM.use c_House_come fun f fd F hm hb => pe_meth (pv 0) T.h.cl hm F (hr.mono (by decide)) hb .nil passL (pa_cons (pv 1) pa_nil)))
      (pss_cons (ps_set (i := 3) sc_law_sits.nd rfl (.inl rfl) (CalM.use c_House_row fun f fd F hm hb => pe_meth0 (pv 0) T.h.cl hm F (hr.mono (by decide)) hb .nil pass0))
      (pss_one (ps_ret (pe_and (pe_fn c_law_whole (hr.mono (by decide)) pass0 (pa_cons (pv 2) pa_nil)) (pe_and (pe_chain op_le op_lt pe_int (pv 2) (pe_callB call_len_seq (by rfl) B.len (by decide +kernel) (pa_cons (pv 3) pa_nil))) (pe_and (pe_cmpR op_eq (pe_ix ix_list (pv 3) (pv 2) (fun _ _ => rfl)) (pv 1) (nomark _)) (pe_one (pe_cmpR op_eq (CalM.use c_House_seat_of fun f fd F hm hb => pe_meth (pv 0) T.h.cl hm F (hr.mono (by decide)) hb .nil passL (pa_cons (pv 1) pa_nil)) (pv 2) (nomark _))))))))))
theorem cal_law_sits {P : Program} {w : World} {K : PySem.W.Frag} {mg : Str → Option Value} {base : Heap} {C : Cs} (D : Def K mg "_law_sits" s_law_sits) (B : Bl mg) (T : TopH K mg C) (c_House_come : CalM P w K mg base (L2.CX P w) 7 C.cHouse "come" ["self", "guest"] (sp_House_come K C)) (c_House_row : CalM P w K mg base CX0 1 C.cHouse "row" ["self"] (sp_House_row K C)) (c_law_whole : Cal P w K mg base CX0 1 "_law_whole" ["_law_found"] (sp_law_whole K C)) (c_House_seat_of : CalM P w K mg base (L2.CX P w) 6 C.cHouse "seat_of" ["self", "guest"] (sp_House_seat_of K C)) :
    Cal P w K mg base CX0 8 "_law_sits" ["_law_house_here", "_law_guest"] (sp_law_sits K C) := by
  obtain ⟨f, fd, F, hm⟩ := D.ex
  exact ⟨f, fd, ok_law_sits F B T c_House_come c_House_row c_law_whole c_House_seat_of, hm, F.kp, F.binds (ps := ["_law_house_here", "_law_guest"]) fun _ _ _ _ _ _ us hl => match us, hl with | [_, _], _ => rfl⟩
abbrev s_law_there : Stmt := topS 37
theorem sc_law_there : FnScope ["_law_house_here", "_law_guests", "_law_many", "_law_found", "_law_guest"] ["_law_house_here", "_law_guests"] (defScope s_law_there) := ⟨rfl, rfl, rfl, by decide +kernel, rfl, by decide +kernel, by decide +kernel⟩
theorem ok_law_there {P : Program} {w : World} {K : PySem.W.Frag} {mg : Str → Option Value} {base : Heap} {C : Cs} {f : Addr} {fd : FuncData} (F : Fun K "_law_there" "_law_there" s_law_there f fd) (B : Bl mg) (T : TopH K mg C) (c_House_many : CalM P w K mg base CX0 1 C.cHouse "many" ["self"] (sp_House_many K C)) (c_House_guests : CalM P w K mg base CX0 1 C.cHouse "guests" ["self"] (sp_House_guests K C)) (c_law_whole : Cal P w K mg base CX0 1 "_law_whole" ["_law_found"] (sp_law_whole K C)) :
    FnOk P w K mg base CX0 2 f fd ["_law_house_here", "_law_guests"] (sp_law_there K C) := by
  refine F.ok sc_law_there (fun vs H Q E h => len_law_there h) (fun cdv A outer s H vs Q E hr h => ⟨t_law_there K C E, ?_, pure_law_there T.f T.h h⟩)
  have hu := hu_of hr
  exact (pss_cons (ps_set (i := 2) sc_law_there.nd rfl (.inl rfl) (CalM.use c_House_many fun f fd F hm hb => pe_meth0 (pv 0) T.h.cl hm F (hr.mono (by decide)) hb .nil pass0))
      (pss_cons (ps_set (i := 3) sc_law_there.nd rfl (.inl rfl) (CalM.use c_House_guests fun f fd F hm hb => pe_meth0 (pv 0) T.h.cl hm F (hr.mono (by decide)) hb .nil pass0))
      (pss_cons (ps_if (PW.pt (pw_or (pt_not (pt_val (pe_fn c_law_whole (hr.mono (by decide)) pass0 (pa_cons (pv 2) pa_nil)))) (pw_or (pt_cmpR op_ne (pv 2) (pe_callB call_len_seq (by rfl) B.len (by decide +kernel) (pa_cons (pv 1) pa_nil)) (nomark _)) (pw_or1 (pt_not (pt_val (pe_callB call_isA (by rfl) B.isinstance (by decide +kernel) (pa_cons (pv 3) (pa_cons (pe_bltn (v := .ty "list") (by rfl) B.list (by decide +kernel) rfl) pa_nil))))))))) (pss_one (ps_ret pe_bl)) pss_nil)
      (pss_cons (ps_for PassesOwn.never rfl (pi_list (pv 3)) (pg_name (i := 4) sc_law_there.nd rfl (.inl rfl)) (pss_one (ps_if (pt_not (pt_val (pe_fn c_law_whole (hr.mono (by decide)) pass0 (pa_cons (pv 4) pa_nil)))) (pss_one (ps_ret pe_bl)) pss_nil)))
      (pss_one (ps_ret (pe_cmpR (op_eqD hr.units) (pv 3) (pe_callB cr_sortedI (by rfl) B.sorted (by decide +kernel) (pa_cons (pv 1) pa_nil)) (nomark _))))))))
theorem cal_law_there {P : Program} {w : World} {K : PySem.W.Frag} {mg : Str → Option Value} {base : Heap} {C : Cs} (D : Def K mg "_law_there" s_law_there) (B : Bl mg) (T : TopH K mg C) (c_House_many : CalM P w K mg base CX0 1 C.cHouse "many" ["self"] (sp_House_many K C)) (c_House_guests : CalM P w K mg base CX0 1 C.cHouse "guests" ["self"] (sp_House_guests K C)) (c_law_whole : Cal P w K mg base CX0 1 "_law_whole" ["_law_found"] (sp_law_whole K C)) :
    Cal P w K mg base CX0 2 "_law_there" ["_law_house_here", "_law_guests"] (sp_law_there K C) := by
  obtain ⟨f, fd, F, hm⟩ := D.ex
  exact ⟨f, fd, ok_law_there F B T c_House_many c_House_guests c_law_whole, hm, F.kp, F.binds (ps := ["_law_house_here", "_law_guests"]) fun _ _ _ _ _ _ us hl => match us, hl with | [_, _], _ => rfl⟩
abbrev s_law_no_guest : Stmt := topS 38
theorem sc_law_no_guest : FnScope ["_law_house_here", "_law_thing", "_law_due"] ["_law_house_here", "_law_thing"] (defScope s_law_no_guest) := ⟨rfl, rfl, rfl, by decide +kernel, rfl, by decide +kernel, by decide +kernel⟩
theorem ok_law_no_guest {P : Program} {w : World} {K : PySem.W.Frag} {mg : Str → Option Value} {base : Heap} {C : Cs} {f : Addr} {fd : FuncData} (F : Fun K "_law_no_guest" "_law_no_guest" s_law_no_guest f fd) (B : Bl mg) (T : TopH K mg C) (c_law_only : Cal P w K mg base CX0 1 "_law_only" ["_law_at"] (sp_law_only K C)) (c_law_comes : Cal P w K mg base CX0 8 "_law_comes" ["_law_house_here", "_law_guest"] (sp_law_comes K C)) (c_law_goes : Cal P w K mg base CX0 8 "_law_goes" ["_law_house_here", "_law_guest"] (sp_law_goes K C)) (c_law_looked_for : Cal P w K mg base CX0 7 "_law_looked_for" ["_law_house_here", "_law_guest"] (sp_law_looked_for K C)) :
    FnOk P w K mg base CX0 9 f fd ["_law_house_here", "_law_thing"] (sp_law_no_guest K C) := by
  refine F.ok sc_law_no_guest (fun vs H Q E h => len_law_no_guest h) (fun cdv A outer s H vs Q E hr h => ⟨t_law_no_guest K C E, ?_, pure_law_no_guest T.f T.h h⟩)
  have hu := hu_of hr
  exact (pss_cons (ps_set (i := 2) sc_law_no_guest.nd rfl (.inl rfl) (pe_fn c_law_only (hr.mono (by decide)) pass0 (pa_cons pe_int pa_nil)))
      (pss_one (ps_ret (pe_and (pe_cmpR (op_eqD hr.units) (pe_fn c_law_comes (hr.mono (by decide)) pass0 (pa_cons (pv 0) (pa_cons (pv 1) pa_nil))) (pv 2) (nomark _)) (pe_and (pe_cmpR (op_eqD hr.units) (pe_fn c_law_goes (hr.mono (by decide)) pass0 (pa_cons (pv 0) (pa_cons (pv 1) pa_nil))) (pv 2) (nomark _)) (pe_one (pe_cmpR (op_eqD hr.units) (pe_fn c_law_looked_for (hr.mono (by decide)) pass0 (pa_cons (pv 0) (pa_cons (pv 1) pa_nil))) (pv 2) (nomark _))))))))
theorem cal_law_no_guest {P : Program} {w : World} {K : PySem.W.Frag} {mg : Str → Option Value} {base : Heap} {C : Cs} (D : Def K mg "_law_no_guest" s_law_no_guest) (B : Bl mg) (T : TopH K mg C) (c_law_only : Cal P w K mg base CX0 1 "_law_only" ["_law_at"] (sp_law_only K C)) (c_law_comes : Cal P w K mg base CX0 8 "_law_comes" ["_law_house_here", "_law_guest"] (sp_law_comes K C)) (c_law_goes : Cal P w K mg base CX0 8 "_law_goes" ["_law_house_here", "_law_guest"] (sp_law_goes K C)) (c_law_looked_for : Cal P w K mg base CX0 7 "_law_looked_for" ["_law_house_here", "_law_guest"] (sp_law_looked_for K C)) :
    Cal P w K mg base CX0 9 "_law_no_guest" ["_law_house_here", "_law_thing"] (sp_law_no_guest K C) := by
  obtain ⟨f, fd, F, hm⟩ := D.ex
  exact ⟨f, fd, ok_law_no_guest F B T c_law_only c_law_comes c_law_goes c_law_looked_for, hm, F.kp, F.binds (ps := ["_law_house_here", "_law_thing"]) fun _ _ _ _ _ _ us hl => match us, hl with | [_, _], _ => rfl⟩
abbrev s_law_most : Stmt := topS 39
theorem sc_law_most : FnScope ["_law_cell"] ["_law_cell"] (defScope s_law_most) := ⟨rfl, rfl, rfl, by decide +kernel, rfl, by decide +kernel, by decide +kernel⟩
theorem ok_law_most {P : Program} {w : World} {K : PySem.W.Frag} {mg : Str → Option Value} {base : Heap} {C : Cs} {f : Addr} {fd : FuncData} (F : Fun K "_law_most" "_law_most" s_law_most f fd) (B : Bl mg) (T : TopH K mg C) :
    FnOk P w K mg base CX0 1 f fd ["_law_cell"] (sp_law_most K C) := by
  refine F.ok sc_law_most (fun vs H Q E h => len_law_most h) (fun cdv A outer s H vs Q E hr h => ⟨t_law_most K C E, ?_, pure_law_most T.f T.h h⟩)
  have hu := hu_of hr
  exact (pss_cons (ps_if (pt_cmpR op_eq (pe_op op_mod (pv 0) pe_int) pe_int (nomark _)) (pss_one (ps_ret pe_int)) pss_nil)
      (pss_cons (ps_if (PW.pt (pw_and (pt_cmpR op_eq (pe_op op_mod (pv 0) pe_int) pe_int (nomark _)) (pw_and1 (pt_cmpR op_eq (pe_op op_mod (pe_op op_fdiv (pv 0) pe_int) pe_int) pe_int (nomark _))))) (pss_one (ps_ret (pe_ix ix_list (pe_lst (pa_cons pe_int (pa_cons pe_int (pa_cons pe_int (pa_cons pe_int (pa_cons pe_int (pa_cons pe_int pa_nil))))))) (pe_op op_mod (pe_op op_fdiv (pv 0) pe_int) pe_int) (fun _ _ => rfl)))) pss_nil)
      (pss_cons (ps_if (pt_cmpR op_eq (pe_op op_mod (pv 0) pe_int) pe_int (nomark _)) (pss_one (ps_ret (pe_op op_mod (pe_op op_fdiv (pv 0) pe_int) pe_int))) pss_nil)
      (pss_one (ps_ret (pe_op op_mod (pe_op op_fdiv (pv 0) pe_int) pe_int))))))
theorem cal_law_most {P : Program} {w : World} {K : PySem.W.Frag} {mg : Str → Option Value} {base : Heap} {C : Cs} (D : Def K mg "_law_most" s_law_most) (B : Bl mg) (T : TopH K mg C) :
    Cal P w K mg base CX0 1 "_law_most" ["_law_cell"] (sp_law_most K C) := by
  obtain ⟨f, fd, F, hm⟩ := D.ex
  exact ⟨f, fd, ok_law_most F B T, hm, F.kp, F.binds (ps := ["_law_cell"]) fun _ _ _ _ _ _ us hl => match us, hl with | [_], _ => rfl⟩
abbrev s_law_all : Stmt := topS 40
theorem sc_law_all : FnScope ["_law_cell", "_law_first", "_law_limit", "_law_step", "_law_crowd", "_law_k"] ["_law_cell", "_law_first", "_law_limit"] (defScope s_law_all) := ⟨rfl, rfl, rfl, by decide +kernel, rfl, by decide +kernel, by decide +kernel⟩
theorem ok_law_all {P : Program} {w : World} {K : PySem.W.Frag} {mg : Str → Option Value} {base : Heap} {C : Cs} {f : Addr} {fd : FuncData} (F : Fun K "_law_all" "_law_all" s_law_all f fd) (B : Bl mg) (T : TopH K mg C) :
    FnOk P w K mg base CX0 1 f fd ["_law_cell", "_law_first", "_law_limit"] (sp_law_all K C) := by
  refine F.ok sc_law_all (fun vs H Q E h => len_law_all h) (fun cdv A outer s H vs Q E hr h => ⟨t_law_all K C E, ?_, pure_law_all T.f T.h h⟩)
  have hu := hu_of hr
  exact (pss_cons (ps_set (i := 3) sc_law_all.nd rfl (.inr rfl) (pe_ix ix_list (pe_lst (pa_cons pe_int (pa_cons pe_int (pa_cons pe_int (pa_cons (pe_op op_add pe_int (pe_op op_mod (pe_op op_fdiv (pv 0) pe_int) (pe_pow (m := 10) (n := 50) (N := 100000000000000000000000000000000000000000000000000) rfl rfl (by decide +kernel) (by decide) (by decide)))) pa_nil))))) (pe_op op_mod (pv 0) pe_int) (fun _ _ => rfl)))
      (pss_cons (ps_set (i := 4) sc_law_all.nd rfl (.inr rfl) (pe_op op_add pe_int (pe_op op_mod (pe_op op_fdiv (pv 0) pe_int) pe_int)))
      (pss_cons (ps_if (pt_cmpR op_le (pv 2) pe_int (nomark _)) (pss_one (ps_set (i := 4) sc_law_all.nd rfl (.inr rfl) pe_int)) (pss_one (ps_if (pt_cmpR op_eq (pe_op op_mod (pv 0) pe_int) pe_int (nomark _)) (pss_one (ps_set (i := 3) sc_law_all.nd rfl (.inr rfl) (pe_op op_add (pe_op op_mulL pe_int pe_int) (pe_op op_mulL (pe_pow (m := 2) (n := 32) (N := 4294967296) rfl rfl (by decide +kernel) (by decide) (by decide)) (pe_op op_add pe_int (pe_op op_mod (pe_op op_fdiv (pv 0) pe_int) (pe_pow (m := 10) (n := 40) (N := 10000000000000000000000000000000000000000) rfl rfl (by decide +kernel) (by decide) (by decide)))))))) pss_nil)))
      (pss_cons (ps_if (pt_cmpR op_eq (pe_op op_mod (pv 0) pe_int) pe_int (nomark _)) (pss_one (ps_ret (pe_lc (own := [("_law_k", 5)]) (g := gName 5) rfl sc_law_all.nd (pi_range1 (by rfl) B.range (pa_cons (pe_op op_add (pv 2) pe_int) pa_nil)) (blkOk_by (N := ["_law_cell", "_law_first", "_law_limit", "_law_step", "_law_crowd", "_law_k"]) (sc := defScope s_law_all) (by decide +kernel)) (fun _ _ _ _ _ => pg_name (i := 5) sc_law_all.nd rfl (Or.inl rfl)) (fun _ _ _ _ _ => pts_nil) (fun _ _ _ _ _ => (pe_op op_add (pe_op op_add (pv 1) (pe_op op_mulL (pe_op op_mulL pe_int (pv 4)) (pe_op op_fdiv (pv 5) (pv 4)))) (pe_op op_mulL (pe_pow (m := 2) (n := 32) (N := 4294967296) rfl rfl (by decide +kernel) (by decide) (by decide)) (pe_op op_mod (pv 5) (pv 4)))))))) pss_nil)
      (pss_one (ps_ret (pe_lc (own := [("_law_k", 5)]) (g := gName 5) rfl sc_law_all.nd (pi_range1 (by rfl) B.range (pa_cons (pe_op op_add (pv 2) pe_int) pa_nil)) (blkOk_by (N := ["_law_cell", "_law_first", "_law_limit", "_law_step", "_law_crowd", "_law_k"]) (sc := defScope s_law_all) (by decide +kernel)) (fun _ _ _ _ _ => pg_name (i := 5) sc_law_all.nd rfl (Or.inl rfl)) (fun _ _ _ _ _ => pts_nil) (fun _ _ _ _ _ => (pe_op op_add (pv 1) (pe_op op_mulL (pv 5) (pv 3)))))))))))
theorem cal_law_all {P : Program} {w : World} {K : PySem.W.Frag} {mg : Str → Option Value} {base : Heap} {C : Cs} (D : Def K mg "_law_all" s_law_all) (B : Bl mg) (T : TopH K mg C) :
    Cal P w K mg base CX0 1 "_law_all" ["_law_cell", "_law_first", "_law_limit"] (sp_law_all K C) := by
  obtain ⟨f, fd, F, hm⟩ := D.ex
  exact ⟨f, fd, ok_law_all F B T, hm, F.kp, F.binds (ps := ["_law_cell", "_law_first", "_law_limit"]) fun _ _ _ _ _ _ us hl => match us, hl with | [_, _, _], _ => rfl⟩
abbrev s_law_house : Stmt := topS 41
theorem sc_law_house : FnScope ["_law_cell", "_law_limit"] ["_law_cell", "_law_limit"] (defScope s_law_house) := ⟨rfl, rfl, rfl, by decide +kernel, rfl, by decide +kernel, by decide +kernel⟩
theorem ok_law_house {P : Program} {w : World} {K : PySem.W.Frag} {mg : Str → Option Value} {base : Heap} {C : Cs} {f : Addr} {fd : FuncData} (F : Fun K "_law_house" "_law_house" s_law_house f fd) (B : Bl mg) (T : TopH K mg C) (c_House_init : CalI P w K mg base 2 C.cHouse ["self", "most"] (.int 96) (sp_House_init K C)) (k_House_init : CalK P w K mg base 2 C.cHouse ["self", "most"] "most" (sp_House_init K C)) :
    FnOk P w K mg base CX0 4 f fd ["_law_cell", "_law_limit"] (sp_law_house K C) := by
  refine F.ok sc_law_house (fun vs H Q E h => len_law_house h) (fun cdv A outer s H vs Q E hr h => ⟨t_law_house K C E, ?_, pure_law_house T.f T.h h⟩)
  have hu := hu_of hr
  exact (pss_cons (ps_if (pt_cmpR op_eq (pe_op op_mod (pv 0) pe_int) pe_int (nomark _)) (pss_one (ps_ret (CalI.use c_House_init fun f fd F hm hb hd => Exists.elim hd fun d hd => pe_make0 hm F (hr.mono (by decide)) (by rfl) T.gHouse hd.2 (.cons hd.1 .nil) passL))) pss_nil)
      (pss_cons (ps_if (pt_cmpR op_eq (pe_op op_mod (pv 0) pe_int) pe_int (nomark _)) (pss_one (ps_ret (CalK.use k_House_init fun f fd F hm hb => pe_makeK0 hm F (hr.mono (by decide)) (by rfl) T.gHouse hb passL (pk_cons (pv 1) pk_nil)))) pss_nil)
      (pss_one (ps_ret (CalI.use c_House_init fun f fd F hm hb hd => pe_make hm F (hr.mono (by decide)) (by rfl) T.gHouse hb .nil passL (pa_cons (pv 1) pa_nil))))))
theorem cal_law_house {P : Program} {w : World} {K : PySem.W.Frag} {mg : Str → Option Value} {base : Heap} {C : Cs} (D : Def K mg "_law_house" s_law_house) (B : Bl mg) (T : TopH K mg C) (c_House_init : CalI P w K mg base 2 C.cHouse ["self", "most"] (.int 96) (sp_House_init K C)) (k_House_init : CalK P w K mg base 2 C.cHouse ["self", "most"] "most" (sp_House_init K C)) :
    Cal P w K mg base CX0 4 "_law_house" ["_law_cell", "_law_limit"] (sp_law_house K C) := by
  obtain ⟨f, fd, F, hm⟩ := D.ex
  exact ⟨f, fd, ok_law_house F B T c_House_init k_House_init, hm, F.kp, F.binds (ps := ["_law_cell", "_law_limit"]) fun _ _ _ _ _ _ us hl => match us, hl with | [_, _], _ => rfl⟩
abbrev s_law : Stmt := topS 42
theorem sc_law : FnScope ["_law_script", "_law_limit", "_law_house_here", "_law_guests", "_law_thing", "_law_last", "_law_guest", "_law_seats", "_law_due", "_law_gone", "_law_left"] ["_law_script"] (defScope s_law) := ⟨rfl, rfl, rfl, by decide +kernel, rfl, by decide +kernel, by decide +kernel⟩
theorem ok_law {P : Program} {w : World} {K : PySem.W.Frag} {mg : Str → Option Value} {base : Heap} {C : Cs} {f : Addr} {fd : FuncData} (F : Fun K "law" "law" s_law f fd) (B : Bl mg) (T : TopH K mg C) (c_law_cell_at : Cal P w K mg base CX0 1 "_law_cell_at" ["_law_script", "_law_k"] (sp_law_cell_at K C)) (c_law_most : Cal P w K mg base CX0 1 "_law_most" ["_law_cell"] (sp_law_most K C)) (c_law_size : Cal P w K mg base CX0 1 "_law_size" ["_law_cell"] (sp_law_size K C)) (c_law_made : Cal P w K mg base CX0 4 "_law_made" ["_law_size_here"] (sp_law_made K C)) (c_law_only : Cal P w K mg base CX0 1 "_law_only" ["_law_at"] (sp_law_only K C)) (c_law_house : Cal P w K mg base CX0 4 "_law_house" ["_law_cell", "_law_limit"] (sp_law_house K C)) (c_law_all : Cal P w K mg base CX0 1 "_law_all" ["_law_cell", "_law_first", "_law_limit"] (sp_law_all K C)) (c_law_odd : Cal P w K mg base CX0 1 "_law_odd" ["_law_cell"] (sp_law_odd K C)) (c_law_sits : Cal P w K mg base CX0 8 "_law_sits" ["_law_house_here", "_law_guest"] (sp_law_sits K C)) (c_House_row : CalM P w K mg base CX0 1 C.cHouse "row" ["self"] (sp_House_row K C)) (c_law_settled : Cal P w K mg base CX0 2 "_law_settled" ["_law_seats", "_law_guests"] (sp_law_settled K C)) (c_law_comes : Cal P w K mg base CX0 8 "_law_comes" ["_law_house_here", "_law_guest"] (sp_law_comes K C)) (c_law_goes : Cal P w K mg base CX0 8 "_law_goes" ["_law_house_here", "_law_guest"] (sp_law_goes K C)) (c_law_no_guest : Cal P w K mg base CX0 9 "_law_no_guest" ["_law_house_here", "_law_thing"] (sp_law_no_guest K C)) (c_House_seat_of : CalM P w K mg base (L2.CX P w) 6 C.cHouse "seat_of" ["self", "guest"] (sp_House_seat_of K C)) (c_law_there : Cal P w K mg base CX0 2 "_law_there" ["_law_house_here", "_law_guests"] (sp_law_there K C)) (c_House_go : CalM P w K mg base (L2.CX P w) 7 C.cHouse "go" ["self", "guest"] (sp_House_go K C)) :
    FnOk P w K mg base CX0 10 f fd ["_law_script"] (sp_law K C) := by
  refine F.ok sc_law (fun vs H Q E h => len_law h) (fun cdv A outer s H vs Q E hr h => ⟨t_law K C E, ?_, pure_law T.f T.h h⟩)
  have hu := hu_of hr
  exact (pss_cons (ps_set (i := 1) sc_law.nd rfl (.inl rfl) (pe_fn c_law_most (hr.mono (by decide)) pass0 (pa_cons (pe_fn c_law_cell_at (hr.mono (by decide)) pass0 (pa_cons (pv 0) (pa_cons pe_int pa_nil))) pa_nil)))
      (pss_cons (ps_if (pt_cmpR (op_neD hr.units) (pe_fn c_law_made (hr.mono (by decide)) pass0 (pa_cons (pe_fn c_law_size (hr.mono (by decide)) pass0 (pa_cons (pe_fn c_law_cell_at (hr.mono (by decide)) pass0 (pa_cons (pv 0) (pa_cons pe_int pa_nil))) pa_nil)) pa_nil)) (pe_fn c_law_only (hr.mono (by decide)) pass0 (pa_cons pe_int pa_nil)) (nomark _)) (pss_one (ps_ret pe_bl)) pss_nil)
      (pss_cons (ps_set (i := 2) sc_law.nd rfl (.inl rfl) (pe_fn c_law_house (hr.mono (by decide)) pass0 (pa_cons (pe_fn c_law_cell_at (hr.mono (by decide)) pass0 (pa_cons (pv 0) (pa_cons pe_int pa_nil))) (pa_cons (pv 1) pa_nil))))
      (pss_cons (ps_set (i := 3) sc_law.nd rfl (.inl rfl) (pe_fn c_law_all (hr.mono (by decide)) pass0 (pa_cons (pe_fn c_law_cell_at (hr.mono (by decide)) pass0 (pa_cons (pv 0) (pa_cons pe_int pa_nil))) (pa_cons (pe_op op_mod (pe_fn c_law_cell_at (hr.mono (by decide)) pass0 (pa_cons (pv 0) (pa_cons pe_int pa_nil))) (pe_pow (m := 10) (n := 59) (N := 100000000000000000000000000000000000000000000000000000000000) rfl rfl (by decide +kernel) (by decide) (by decide))) (pa_cons (pv 1) pa_nil)))))
      (pss_cons (ps_set (i := 4) sc_law.nd rfl (.inl rfl) (pe_fn c_law_odd (hr.mono (by decide)) pass0 (pa_cons (pe_fn c_law_cell_at (hr.mono (by decide)) pass0 (pa_cons (pv 0) (pa_cons pe_int pa_nil))) pa_nil)))
      (pss_cons (ps_set (i := 5) sc_law.nd rfl (.inl rfl) (pe_bm0 PySem.F.plainAttrs_list PySem.F.slot_list_pop PySem.F.type_list_pop mt_pop (pv 3)))
      (pss_cons (ps_for PassesOwn.never rfl (pi_list (pv 3)) (pg_name (i := 6) sc_law.nd rfl (.inl rfl)) (pss_one (ps_if (pt_not (pt_val (pe_fn c_law_sits (hr.mono (by decide)) pass0 (pa_cons (pv 2) (pa_cons (pv 6) pa_nil))))) (pss_one (ps_ret pe_bl)) pss_nil)))
      (pss_cons (ps_set (i := 7) sc_law.nd rfl (.inl rfl) (CalM.use c_House_row fun f fd F hm hb => pe_meth0 (pv 2) T.h.cl hm F (hr.mono (by decide)) hb .nil pass0))
      (pss_cons (ps_if (pt_not (pt_val (pe_fn c_law_settled (hr.mono (by decide)) pass0 (pa_cons (pv 7) (pa_cons (pv 3) pa_nil))))) (pss_one (ps_ret pe_bl)) pss_nil)
      (pss_cons (ps_set (i := 8) sc_law.nd rfl (.inl rfl) (pe_lst (pa_cons (pe_cmpR (op_eqD hr.units) (pe_fn c_law_goes (hr.mono (by decide)) pass0 (pa_cons (pv 2) (pa_cons (pv 5) pa_nil))) (pe_fn c_law_only (hr.mono (by decide)) pass0 (pa_cons pe_int pa_nil)) (nomark _)) (pa_cons (pe_cmpR (op_eqD hr.units) (pe_fn c_law_comes (hr.mono (by decide)) pass0 (pa_cons (pv 2) (pa_cons (pv 5) pa_nil))) (pe_fn c_law_only (hr.mono (by decide)) pass0 (pa_cons pe_int pa_nil)) (nomark _)) pa_nil))))
      (pss_cons (ps_if (PW.pt (pw_or (pt_cmpR op_in_seq pe_bl (pv 8) (by rfl)) (pw_or1 (pt_not (pt_val (pe_fn c_law_no_guest (hr.mono (by decide)) pass0 (pa_cons (pv 2) (pa_cons (pv 4) pa_nil)))))))) (pss_one (ps_ret pe_bl)) pss_nil)
      (pss_cons (ps_if (PW.pt (pw_or (pt_cmpR (op_neD hr.units) (CalM.use c_House_row fun f fd F hm hb => pe_meth0 (pv 2) T.h.cl hm F (hr.mono (by decide)) hb .nil pass0) (pv 7) (nomark _)) (pw_or (pt_cmp (pc_notN (CalM.use c_House_seat_of fun f fd F hm hb => pe_meth (pv 2) T.h.cl hm F (hr.mono (by decide)) hb .nil passL (pa_cons (pv 5) pa_nil)))) (pw_or1 (pt_not (pt_val (pe_fn c_law_there (hr.mono (by decide)) pass0 (pa_cons (pv 2) (pa_cons (pv 3) pa_nil))))))))) (pss_one (ps_ret pe_bl)) pss_nil)
      (pss_cons (ps_if (pt_cmpR op_eq (pv 1) pe_int (nomark _)) (pss_one (ps_ret pe_bl)) pss_nil)
      (pss_cons (ps_set (i := 9) sc_law.nd rfl (.inr rfl) (pe_ix ix_list (pv 3) (pe_op op_mod (pe_fn c_law_cell_at (hr.mono (by decide)) pass0 (pa_cons (pv 0) (pa_cons pe_int pa_nil))) (pv 1)) (fun _ _ => rfl)))
      (pss_cons (ps_if (PW.pt (pw_or (pt_cmpR (op_neD hr.units) (pe_fn c_law_comes (hr.mono (by decide)) pass0 (pa_cons (pv 2) (pa_cons (pv 9) pa_nil))) (pe_fn c_law_only (hr.mono (by decide)) pass0 (pa_cons pe_int pa_nil)) (nomark _)) (pw_or1 (pt_cmpR (op_neD hr.units) (CalM.use c_House_row fun f fd F hm hb => pe_meth0 (pv 2) T.h.cl hm F (hr.mono (by decide)) hb .nil pass0) (pv 7) (nomark _))))) (pss_one (ps_ret pe_bl)) pss_nil)
      (pss_cons (ps_setLc (i := 10) (own := [("_law_guest", 6)]) (g := gName 6) rfl sc_law.nd rfl rfl (sw_true rfl rfl rfl (by decide +kernel)) (pi_list (pv 3)) (blkOk_by (N := ["_law_script", "_law_limit", "_law_house_here", "_law_guests", "_law_thing", "_law_last", "_law_guest", "_law_seats", "_law_due", "_law_gone", "_law_left"]) (sc := defScope s_law) (by decide +kernel)) (fun _ _ _ _ _ => pg_name (i := 6) sc_law.nd rfl (Or.inl rfl)) (fun _ _ _ _ _ => (pts_one (pt_cmpR op_ne (pv 6) (pv 9) (nomark _)))) (fun _ _ _ _ _ => (pv 6)))
      (pss_cons (ps_if (PW.pt (pw_or (pt_cmpR op_ne (CalM.use c_House_go fun f fd F hm hb => pe_meth (pv 2) T.h.cl hm F (hr.mono (by decide)) hb .nil passL (pa_cons (pv 9) pa_nil)) (pe_bm PySem.F.plainAttrs_list PySem.F.slot_list_index PySem.F.type_list_index mt_index (pv 7) (pa_cons (pv 9) pa_nil)) (nomark _)) (pw_or1 (pt_cmpR (op_neD hr.units) (pe_fn c_law_goes (hr.mono (by decide)) pass0 (pa_cons (pv 2) (pa_cons (pv 9) pa_nil))) (pe_fn c_law_only (hr.mono (by decide)) pass0 (pa_cons pe_int pa_nil)) (nomark _))))) (pss_one (ps_ret pe_bl)) pss_nil)
      (pss_cons (ps_if (PW.pt (pw_or (pt_not (pt_val (pe_fn c_law_settled (hr.mono (by decide)) pass0 (pa_cons (CalM.use c_House_row fun f fd F hm hb => pe_meth0 (pv 2) T.h.cl hm F (hr.mono (by decide)) hb .nil pass0) (pa_cons (pv 10) pa_nil))))) (pw_or (pt_not (pt_val (pe_fn c_law_sits (hr.mono (by decide)) pass0 (pa_cons (pv 2) (pa_cons (pv 5) pa_nil))))) (pw_or1 (pt_cmpR (op_neD hr.units) (pe_fn c_law_comes (hr.mono (by decide)) pass0 (pa_cons (pv 2) (pa_cons (pv 9) pa_nil))) (pe_fn c_law_only (hr.mono (by decide)) pass0 (pa_cons pe_int pa_nil)) (nomark _)))))) (pss_one (ps_ret pe_bl)) pss_nil)
      (pss_cons (ps_if (pt_not (pt_val (pe_fn c_law_there (hr.mono (by decide)) pass0 (pa_cons (pv 2) (pa_cons (pe_op op_cat (pv 10) (pe_lst (pa_cons (pv 5) pa_nil))) pa_nil))))) (pss_one (ps_ret pe_bl)) pss_nil)
      (pss_one (ps_ret (pe_and (pe_cmpR (op_eqD hr.units) (pe_fn c_law_goes (hr.mono (by decide)) pass0 (pa_cons (pv 2) (pa_cons (pv 5) pa_nil))) (pe_lst pa_nil) (nomark _)) (pe_one (pe_fn c_law_there (hr.mono (by decide)) pass0 (pa_cons (pv 2) (pa_cons (pv 10) pa_nil))))))))))))))))))))))))))
end RS
namespace RS
open PySem PySem.Spec PyProof.Rows L2
theorem all_mk {l : PySem.W.OpenLaw} {w : World} {K : PySem.W.Frag} {h : Heap} {mg : Str → Option Value} {fa : Addr} (X : K.In h) (G : h.Ns mainGlobals mg) (hfa : mg "law" = some (.ref fa)) (C : Cs) (T : TopH K mg C)
    (d_is_guest : Def K mg "is_guest" s_is_guest)
    (d_home : Def K mg "home" s_home)
    (d_carried : Def K mg "carried" s_carried)
    (d_ahead : Def K mg "ahead" s_ahead)
    (d_room : Def K mg "room" s_room)
    (d_look_for : Def K mg "look_for" s_look_for)
    (d_place_of : Def K mg "place_of" s_place_of)
    (d_take_seat : Def K mg "take_seat" s_take_seat)
    (d_leave_seat : Def K mg "leave_seat" s_leave_seat)
    (d_looked_through : Def K mg "looked_through" s_looked_through)
    (d_seated : Def K mg "seated" s_seated)
    (d_House_init : DefI K C.cHouse s_House_init)
    (d_House_come : DefM K C.cHouse "come" "House.come" s_House_come)
    (d_House_go : DefM K C.cHouse "go" "House.go" s_House_go)
    (d_House_seat_of : DefM K C.cHouse "seat_of" "House.seat_of" s_House_seat_of)
    (d_House_row : DefM K C.cHouse "row" "House.row" s_House_row)
    (d_House_guests : DefM K C.cHouse "guests" "House.guests" s_House_guests)
    (d_House_many : DefM K C.cHouse "many" "House.many" s_House_many)
    (d_law_cell_at : Def K mg "_law_cell_at" s_law_cell_at)
    (d_law_whole : Def K mg "_law_whole" s_law_whole)
    (d_law_home : Def K mg "_law_home" s_law_home)
    (d_law_settled : Def K mg "_law_settled" s_law_settled)
    (d_law_size : Def K mg "_law_size" s_law_size)
    (d_law_odd : Def K mg "_law_odd" s_law_odd)
    (d_law_kinds : Def K mg "_law_kinds" s_law_kinds)
    (d_law_only : Def K mg "_law_only" s_law_only)
    (d_law_made : Def K mg "_law_made" s_law_made)
    (d_law_comes : Def K mg "_law_comes" s_law_comes)
    (d_law_goes : Def K mg "_law_goes" s_law_goes)
    (d_law_looked_for : Def K mg "_law_looked_for" s_law_looked_for)
    (d_law_sits : Def K mg "_law_sits" s_law_sits)
    (d_law_there : Def K mg "_law_there" s_law_there)
    (d_law_no_guest : Def K mg "_law_no_guest" s_law_no_guest)
    (d_law_most : Def K mg "_law_most" s_law_most)
    (d_law_all : Def K mg "_law_all" s_law_all)
    (d_law_house : Def K mg "_law_house" s_law_house)
    (d_law : Def K mg "law" s_law)
    (z_ValueError : PySem.W.nsIn K mainGlobals "ValueError" = some none) (z_bool : PySem.W.nsIn K mainGlobals "bool" = some none) (z_int : PySem.W.nsIn K mainGlobals "int" = some none) (z_isinstance : PySem.W.nsIn K mainGlobals "isinstance" = some none) (z_len : PySem.W.nsIn K mainGlobals "len" = some none) (z_list : PySem.W.nsIn K mainGlobals "list" = some none) (z_range : PySem.W.nsIn K mainGlobals "range" = some none) (z_set : PySem.W.nsIn K mainGlobals "set" = some none) (z_sorted : PySem.W.nsIn K mainGlobals "sorted" = some none) :
    ∃ fd : FuncData, (∀ (s : Shared) (v : Value), BindsTo s fd ⟨[v], []⟩ [("_law_script", v)]) ∧ ∀ base : Heap, K.In base → base.Ns mainGlobals mg → FnOk l.prog w K mg base CX0 10 fa fd ["_law_script"] (sp_law K C) := by
  have B : Bl mg := ⟨PySem.W.mg_none_of X G z_ValueError, PySem.W.mg_none_of X G z_bool, PySem.W.mg_none_of X G z_int, PySem.W.mg_none_of X G z_isinstance, PySem.W.mg_none_of X G z_len, PySem.W.mg_none_of X G z_list, PySem.W.mg_none_of X G z_range, PySem.W.mg_none_of X G z_set, PySem.W.mg_none_of X G z_sorted⟩
  obtain ⟨f, fd, F, hm⟩ := d_law.ex
  have e := hfa.symm.trans hm
  cases e
  refine ⟨fd, fun s v => ?_, fun base _ _ => ?_⟩
  · obtain ⟨oc, od, kV, doc, pm, an, cdv, ct, osl, rfl, lk, hcd⟩ := F.ex
    exact .of_eq rfl
  · have c_is_guest := cal_is_guest (P := l.prog) (w := w) (base := base) (C := C) d_is_guest B T 
    have c_home := cal_home (P := l.prog) (w := w) (base := base) (C := C) d_home B T 
    have c_room := cal_room (P := l.prog) (w := w) (base := base) (C := C) d_room B T 
    have c_House_row := cal_House_row (P := l.prog) (w := w) (base := base) (C := C) d_House_row B T 
    have c_House_guests := cal_House_guests (P := l.prog) (w := w) (base := base) (C := C) d_House_guests B T 
    have c_House_many := cal_House_many (P := l.prog) (w := w) (base := base) (C := C) d_House_many B T 
    have c_law_cell_at := cal_law_cell_at (P := l.prog) (w := w) (base := base) (C := C) d_law_cell_at B T 
    have c_law_whole := cal_law_whole (P := l.prog) (w := w) (base := base) (C := C) d_law_whole B T 
    have c_law_home := cal_law_home (P := l.prog) (w := w) (base := base) (C := C) d_law_home B T 
    have c_law_size := cal_law_size (P := l.prog) (w := w) (base := base) (C := C) d_law_size B T 
    have c_law_odd := cal_law_odd (P := l.prog) (w := w) (base := base) (C := C) d_law_odd B T 
    have c_law_kinds := cal_law_kinds (P := l.prog) (w := w) (base := base) (C := C) d_law_kinds B T 
    have c_law_only := cal_law_only (P := l.prog) (w := w) (base := base) (C := C) d_law_only B T 
    have c_law_most := cal_law_most (P := l.prog) (w := w) (base := base) (C := C) d_law_most B T 
    have c_law_all := cal_law_all (P := l.prog) (w := w) (base := base) (C := C) d_law_all B T 
    have c_carried := cal_carried (P := l.prog) (w := w) (base := base) (C := C) d_carried B T c_home
    have c_looked_through := cal_looked_through (P := l.prog) (w := w) (base := base) (C := C) d_looked_through B T c_is_guest
    have c_House_init := cal_House_init (P := l.prog) (w := w) (base := base) (C := C) d_House_init B T c_room
    have k_House_init := calk_House_init (P := l.prog) (w := w) (base := base) (C := C) d_House_init B T c_room
    have c_law_settled := cal_law_settled (P := l.prog) (w := w) (base := base) (C := C) d_law_settled B T c_law_whole c_law_home
    have c_law_there := cal_law_there (P := l.prog) (w := w) (base := base) (C := C) d_law_there B T c_House_many c_House_guests c_law_whole
    have c_ahead := cal_ahead (P := l.prog) (w := w) (base := base) (C := C) d_ahead B T c_carried
    have c_leave_seat := cal_leave_seat (P := l.prog) (w := w) (base := base) (C := C) d_leave_seat B T c_carried
    have c_look_for := cal_look_for (P := l.prog) (w := w) (base := base) (C := C) d_look_for B T c_is_guest c_home c_ahead
    have c_law_made := cal_law_made (P := l.prog) (w := w) (base := base) (C := C) d_law_made B T c_House_init c_law_kinds
    have c_law_house := cal_law_house (P := l.prog) (w := w) (base := base) (C := C) d_law_house B T c_House_init k_House_init
    have c_place_of := cal_place_of (P := l.prog) (w := w) (base := base) (C := C) d_place_of B T c_look_for
    have c_take_seat := cal_take_seat (P := l.prog) (w := w) (base := base) (C := C) d_take_seat B T c_look_for
    have c_seated := cal_seated (P := l.prog) (w := w) (base := base) (C := C) d_seated B T c_looked_through c_take_seat
    have c_House_seat_of := cal_House_seat_of (P := l.prog) (w := w) (base := base) (C := C) d_House_seat_of B T c_place_of
    have c_House_come := cal_House_come (P := l.prog) (w := w) (base := base) (C := C) d_House_come B T c_place_of c_House_many c_room c_House_guests c_seated c_take_seat
    have c_House_go := cal_House_go (P := l.prog) (w := w) (base := base) (C := C) d_House_go B T c_place_of c_leave_seat c_House_many c_room c_House_guests c_seated
    have c_law_looked_for := cal_law_looked_for (P := l.prog) (w := w) (base := base) (C := C) d_law_looked_for B T c_House_seat_of c_law_kinds
    have c_law_comes := cal_law_comes (P := l.prog) (w := w) (base := base) (C := C) d_law_comes B T c_House_come c_law_kinds
    have c_law_goes := cal_law_goes (P := l.prog) (w := w) (base := base) (C := C) d_law_goes B T c_House_go c_law_kinds
    have c_law_sits := cal_law_sits (P := l.prog) (w := w) (base := base) (C := C) d_law_sits B T c_House_come c_House_row c_law_whole c_House_seat_of
    have c_law_no_guest := cal_law_no_guest (P := l.prog) (w := w) (base := base) (C := C) d_law_no_guest B T c_law_only c_law_comes c_law_goes c_law_looked_for
    exact ok_law F B T c_law_cell_at c_law_most c_law_size c_law_made c_law_only c_law_house c_law_all c_law_odd c_law_sits c_House_row c_law_settled c_law_comes c_law_goes c_law_no_guest c_House_seat_of c_law_there c_House_go
theorem fin {l : PySem.W.OpenLaw} {q : Program} {loose : List Str} {XP : (Str → Option Value) → Heap → Prop} {YP : World → Heap → Prop} {d : DefRec} {K : Params → PySem.W.Frag} (hn : l.most = some 63) (hdf : d.params.defaults = [])
    (hY : ∀ (w : World) (h : Heap), YP w h → (K w.params).In h)
    (F : ∀ (w : World) (mg : Str → Option Value) (fa : Addr) (h : Heap), (K w.params).In h → h.Ns mainGlobals mg → mg d.name = some (.ref fa) → ∃ C : Cs,
      ∃ fd : FuncData, (∀ (s : Shared) (u : Value), BindsTo s fd ⟨[u], []⟩ [("_law_script", u)]) ∧ ∀ base : Heap, (K w.params).In base → base.Ns mainGlobals mg → FnOk l.prog w (K w.params) mg base CX0 10 fa fd ["_law_script"] (sp_law (K w.params) C)) :
    PySem.W.WalkO q loose XP YP l.row.toRowW d [] (fun f vs => PySem.call f vs) :=
  L2.walk_of (n := 63) (k := 10) (x := "_law_script") (CX := fun _ => CX0) (sp := fun w => sp_law0 (K w.params)) hn (by decide) hdf ⟨rfl, by decide, by decide⟩ hY
    (fun w mg fa h a b c => by
      obtain ⟨C, fd, h1, h2⟩ := F w mg fa h a b c
      exact ⟨fd, h1, h2⟩)
    (fun _ _ a ns hl _ hS => ⟨a, ns, rfl, hS, hl, fun _ => rfl⟩) fun _ _ _ _ _ z => z
end RS
open PySem PySem.W PyProof.Rows
set_option maxRecDepth 100000 in
set_option maxHeartbeats 0 in
theorem PySem.Challenge.cw_ringseat_k10_a_house_holds : PySem.Challenge.rw_ringseat_k10_a_house.Holds := by
  w_on; o_law; k_head; (case hw => w_witness2)
  k_fill
  refine RS.fin (l := PySem.Challenge.rw_ringseat_k10_a_house) rfl rfl (fun w h Y => PySem.W.kIn_of Y) ?F
  case F =>
    intro w mg fa h KX G hmg
    refine' ⟨_, RS.all_mk KX G hmg _ (RS.topH_mk KX G (RS.top_mk  KX G ?nR ?n1 ?n2 ?n3 ?n4 ?n5 ⟨?F1q, ?F1k, ?F1b, ?F1t, ?F1g, ?F1n, ?F1d, ?F1c, ?F1m, ?F1v, ?F1r, ?F1s⟩ ⟨?F2q, ?F2k, ?F2b, ?F2t, ?F2g, ?F2n, ?F2d, ?F2c, ?F2m, ?F2v, ?F2r, ?F2s⟩ ⟨?F3q, ?F3k, ?F3b, ?F3t, ?F3g, ?F3n, ?F3d, ?F3c, ?F3m, ?F3v, ?F3r, ?F3s⟩ ⟨?F4q, ?F4k, ?F4b, ?F4t, ?F4g, ?F4n, ?F4d, ?F4c, ?F4m, ?F4v, ?F4r, ?F4s⟩ ⟨?F5q, ?F5k, ?F5b, ?F5t, ?F5g, ?F5n, ?F5d, ?F5c, ?F5m, ?F5v, ?F5r, ?F5s⟩ ?Rb ?Rd ?Rt ?hn ?ht ?s12 ?s13 ?s14 ?s15 ?s21 ?s23 ?s24 ?s25 ?s31 ?s32 ?s34 ?s35 ?s41 ?s42 ?s43 ?s45 ?s51 ?s52 ?s53 ?s54) ?nH ?pg ?hd ?po ?sa ?nm ?ns) (RS.def_mk KX G ?a_is_guest ?l_is_guest ?c_is_guest ?k_is_guest) (RS.def_mk KX G ?a_home ?l_home ?c_home ?k_home) (RS.def_mk KX G ?a_carried ?l_carried ?c_carried ?k_carried) (RS.def_mk KX G ?a_ahead ?l_ahead ?c_ahead ?k_ahead) (RS.def_mk KX G ?a_room ?l_room ?c_room ?k_room) (RS.def_mk KX G ?a_look_for ?l_look_for ?c_look_for ?k_look_for) (RS.def_mk KX G ?a_place_of ?l_place_of ?c_place_of ?k_place_of) (RS.def_mk KX G ?a_take_seat ?l_take_seat ?c_take_seat ?k_take_seat) (RS.def_mk KX G ?a_leave_seat ?l_leave_seat ?c_leave_seat ?k_leave_seat) (RS.def_mk KX G ?a_looked_through ?l_looked_through ?c_looked_through ?k_looked_through) (RS.def_mk KX G ?a_seated ?l_seated ?c_seated ?k_seated) (RS.def_mkI ?a_House_init ?i_House_init ?l_House_init ?c_House_init ?k_House_init ?t_House_init ?m_House_init ?h_House_init) (RS.def_mkM ?a_House_come ?i_House_come ?l_House_come ?c_House_come ?k_House_come) (RS.def_mkM ?a_House_go ?i_House_go ?l_House_go ?c_House_go ?k_House_go) (RS.def_mkM ?a_House_seat_of ?i_House_seat_of ?l_House_seat_of ?c_House_seat_of ?k_House_seat_of) (RS.def_mkM ?a_House_row ?i_House_row ?l_House_row ?c_House_row ?k_House_row) (RS.def_mkM ?a_House_guests ?i_House_guests ?l_House_guests ?c_House_guests ?k_House_guests) (RS.def_mkM ?a_House_many ?i_House_many ?l_House_many ?c_House_many ?k_House_many) (RS.def_mk KX G ?a_law_cell_at ?l_law_cell_at ?c_law_cell_at ?k_law_cell_at) (RS.def_mk KX G ?a_law_whole ?l_law_whole ?c_law_whole ?k_law_whole) (RS.def_mk KX G ?a_law_home ?l_law_home ?c_law_home ?k_law_home) (RS.def_mk KX G ?a_law_settled ?l_law_settled ?c_law_settled ?k_law_settled) (RS.def_mk KX G ?a_law_size ?l_law_size ?c_law_size ?k_law_size) (RS.def_mk KX G ?a_law_odd ?l_law_odd ?c_law_odd ?k_law_odd) (RS.def_mk KX G ?a_law_kinds ?l_law_kinds ?c_law_kinds ?k_law_kinds) (RS.def_mk KX G ?a_law_only ?l_law_only ?c_law_only ?k_law_only) (RS.def_mk KX G ?a_law_made ?l_law_made ?c_law_made ?k_law_made) (RS.def_mk KX G ?a_law_comes ?l_law_comes ?c_law_comes ?k_law_comes) (RS.def_mk KX G ?a_law_goes ?l_law_goes ?c_law_goes ?k_law_goes) (RS.def_mk KX G ?a_law_looked_for ?l_law_looked_for ?c_law_looked_for ?k_law_looked_for) (RS.def_mk KX G ?a_law_sits ?l_law_sits ?c_law_sits ?k_law_sits) (RS.def_mk KX G ?a_law_there ?l_law_there ?c_law_there ?k_law_there) (RS.def_mk KX G ?a_law_no_guest ?l_law_no_guest ?c_law_no_guest ?k_law_no_guest) (RS.def_mk KX G ?a_law_most ?l_law_most ?c_law_most ?k_law_most) (RS.def_mk KX G ?a_law_all ?l_law_all ?c_law_all ?k_law_all) (RS.def_mk KX G ?a_law_house ?l_law_house ?c_law_house ?k_law_house) (RS.def_mk KX G ?a_law ?l_law ?c_law ?k_law) ?z_ValueError ?z_bool ?z_int ?z_isinstance ?z_len ?z_list ?z_range ?z_set ?z_sorted⟩
    (case nR => k_is); (case n1 => k_is); (case n2 => k_is); (case n3 => k_is); (case n4 => k_is); (case n5 => k_is); (case Rb => k_is); (case Rd => k_is); (case Rt => k_is); (case hn => k_is); (case ht => k_is); (case nH => k_is); (case pg => k_is); (case hd => k_is); (case po => k_is); (case sa => k_is); (case nm => k_is); (case ns => k_is)
    (case F1q => k_exc); (case F1k => k_is); (case F1b => k_is); (case F1t => k_is); (case F1g => k_is); (case F1n => k_is); (case F1d => k_is); (case F1c => k_is); (case F1m => k_is); (case F1v => k_is); (case F1r => k_is); (case F1s => k_is)
    (case F2q => k_exc); (case F2k => k_is); (case F2b => k_is); (case F2t => k_is); (case F2g => k_is); (case F2n => k_is); (case F2d => k_is); (case F2c => k_is); (case F2m => k_is); (case F2v => k_is); (case F2r => k_is); (case F2s => k_is)
    (case F3q => k_exc); (case F3k => k_is); (case F3b => k_is); (case F3t => k_is); (case F3g => k_is); (case F3n => k_is); (case F3d => k_is); (case F3c => k_is); (case F3m => k_is); (case F3v => k_is); (case F3r => k_is); (case F3s => k_is)
    (case F4q => k_exc); (case F4k => k_is); (case F4b => k_is); (case F4t => k_is); (case F4g => k_is); (case F4n => k_is); (case F4d => k_is); (case F4c => k_is); (case F4m => k_is); (case F4v => k_is); (case F4r => k_is); (case F4s => k_is)
    (case F5q => k_exc); (case F5k => k_is); (case F5b => k_is); (case F5t => k_is); (case F5g => k_is); (case F5n => k_is); (case F5d => k_is); (case F5c => k_is); (case F5m => k_is); (case F5v => k_is); (case F5r => k_is); (case F5s => k_is)
    (case s12 => k_is); (case s13 => k_is); (case s14 => k_is); (case s15 => k_is); (case s21 => k_is); (case s23 => k_is); (case s24 => k_is); (case s25 => k_is); (case s31 => k_is); (case s32 => k_is); (case s34 => k_is); (case s35 => k_is); (case s41 => k_is); (case s42 => k_is); (case s43 => k_is); (case s45 => k_is); (case s51 => k_is); (case s52 => k_is); (case s53 => k_is); (case s54 => k_is)
    (case a_is_guest => k_is); (case l_is_guest => k_is); (case c_is_guest => k_is); (case k_is_guest => k_is)
    (case a_home => k_is); (case l_home => k_is); (case c_home => k_is); (case k_home => k_is)
    (case a_carried => k_is); (case l_carried => k_is); (case c_carried => k_is); (case k_carried => k_is)
    (case a_ahead => k_is); (case l_ahead => k_is); (case c_ahead => k_is); (case k_ahead => k_is)
    (case a_room => k_is); (case l_room => k_is); (case c_room => k_is); (case k_room => k_is)
    (case a_look_for => k_is); (case l_look_for => k_is); (case c_look_for => k_is); (case k_look_for => k_is)
    (case a_place_of => k_is); (case l_place_of => k_is); (case c_place_of => k_is); (case k_place_of => k_is)
    (case a_take_seat => k_is); (case l_take_seat => k_is); (case c_take_seat => k_is); (case k_take_seat => k_is)
    (case a_leave_seat => k_is); (case l_leave_seat => k_is); (case c_leave_seat => k_is); (case k_leave_seat => k_is)
    (case a_looked_through => k_is); (case l_looked_through => k_is); (case c_looked_through => k_is); (case k_looked_through => k_is)
    (case a_seated => k_is); (case l_seated => k_is); (case c_seated => k_is); (case k_seated => k_is)
    (case a_House_init => k_is); (case i_House_init => k_is); (case l_House_init => k_is); (case c_House_init => k_is); (case k_House_init => k_is); (case t_House_init => k_is); (case m_House_init => k_is); (case h_House_init => k_is)
    (case a_House_come => k_is); (case i_House_come => k_is); (case l_House_come => k_is); (case c_House_come => k_is); (case k_House_come => k_is)
    (case a_House_go => k_is); (case i_House_go => k_is); (case l_House_go => k_is); (case c_House_go => k_is); (case k_House_go => k_is)
    (case a_House_seat_of => k_is); (case i_House_seat_of => k_is); (case l_House_seat_of => k_is); (case c_House_seat_of => k_is); (case k_House_seat_of => k_is)
    (case a_House_row => k_is); (case i_House_row => k_is); (case l_House_row => k_is); (case c_House_row => k_is); (case k_House_row => k_is)
    (case a_House_guests => k_is); (case i_House_guests => k_is); (case l_House_guests => k_is); (case c_House_guests => k_is); (case k_House_guests => k_is)
    (case a_House_many => k_is); (case i_House_many => k_is); (case l_House_many => k_is); (case c_House_many => k_is); (case k_House_many => k_is)
    (case a_law_cell_at => k_is); (case l_law_cell_at => k_is); (case c_law_cell_at => k_is); (case k_law_cell_at => k_is)
    (case a_law_whole => k_is); (case l_law_whole => k_is); (case c_law_whole => k_is); (case k_law_whole => k_is)
    (case a_law_home => k_is); (case l_law_home => k_is); (case c_law_home => k_is); (case k_law_home => k_is)
    (case a_law_settled => k_is); (case l_law_settled => k_is); (case c_law_settled => k_is); (case k_law_settled => k_is)
    (case a_law_size => k_is); (case l_law_size => k_is); (case c_law_size => k_is); (case k_law_size => k_is)
    (case a_law_odd => k_is); (case l_law_odd => k_is); (case c_law_odd => k_is); (case k_law_odd => k_is)
    (case a_law_kinds => k_is); (case l_law_kinds => k_is); (case c_law_kinds => k_is); (case k_law_kinds => k_is)
    (case a_law_only => k_is); (case l_law_only => k_is); (case c_law_only => k_is); (case k_law_only => k_is)
    (case a_law_made => k_is); (case l_law_made => k_is); (case c_law_made => k_is); (case k_law_made => k_is)
    (case a_law_comes => k_is); (case l_law_comes => k_is); (case c_law_comes => k_is); (case k_law_comes => k_is)
    (case a_law_goes => k_is); (case l_law_goes => k_is); (case c_law_goes => k_is); (case k_law_goes => k_is)
    (case a_law_looked_for => k_is); (case l_law_looked_for => k_is); (case c_law_looked_for => k_is); (case k_law_looked_for => k_is)
    (case a_law_sits => k_is); (case l_law_sits => k_is); (case c_law_sits => k_is); (case k_law_sits => k_is)
    (case a_law_there => k_is); (case l_law_there => k_is); (case c_law_there => k_is); (case k_law_there => k_is)
    (case a_law_no_guest => k_is); (case l_law_no_guest => k_is); (case c_law_no_guest => k_is); (case k_law_no_guest => k_is)
    (case a_law_most => k_is); (case l_law_most => k_is); (case c_law_most => k_is); (case k_law_most => k_is)
    (case a_law_all => k_is); (case l_law_all => k_is); (case c_law_all => k_is); (case k_law_all => k_is)
    (case a_law_house => k_is); (case l_law_house => k_is); (case c_law_house => k_is); (case k_law_house => k_is)
    (case a_law => k_is); (case l_law => k_is); (case c_law => k_is); (case k_law => k_is)
    (case z_ValueError => k_is); (case z_bool => k_is); (case z_int => k_is); (case z_isinstance => k_is); (case z_len => k_is); (case z_list => k_is); (case z_range => k_is); (case z_set => k_is); (case z_sorted => k_is)
