import PyProof.Rows.All
import Wide.All
import OpenK.AllK
import Wide.FinOn
import HandS.ForMost
import HandS.ForExc
import HandS.IsInst
import HandS.Style
import HandS.SortInts
import HandS.ExcIs
import HandS.Conv
import HandS.Zip
import HandS.More
import HandS.Sort
import KE.GoesNew
import HandS.Defaults
import PySem.Challenge.RW_ringseat_k11_whole_house
set_option Elab.async false
set_option linter.all false
set_option maxRecDepth 100000
set_option maxHeartbeats 4000000
/-! ### the ring: seats 0 .. n-1, far from a home, who goes ahead, settled seatings -/
namespace Ring
def far (n h p : Nat) : Nat := if h ≤ p then p - h else p + n - h
def nx (n p : Nat) : Nat := if p + 1 < n then p + 1 else 0
def pv (n p : Nat) : Nat := if p = 0 then n - 1 else p - 1
theorem far_lt {n h p : Nat} (hh : h < n) (hp : p < n) : far n h p < n := by unfold far; split <;> omega
theorem far_self {n h : Nat} : far n h h = 0 := by unfold far; simp
theorem far_zero {n h p : Nat} (hh : h < n) (e : far n h p = 0) : p = h := by unfold far at e; split at e <;> omega
theorem far_inj {n h p q : Nat} (hh : h < n) (hp : p < n) (hq : q < n) (e : far n h p = far n h q) : p = q := by unfold far at e; split at e <;> split at e <;> omega
theorem nx_lt {n p : Nat} (hp : p < n) : nx n p < n := by unfold nx; split <;> omega
theorem pv_lt {n p : Nat} (hp : p < n) : pv n p < n := by unfold pv; split <;> omega
theorem nx_pv {n p : Nat} (hp : p < n) : nx n (pv n p) = p := by unfold nx pv; split <;> split <;> omega
theorem pv_nx {n p : Nat} (hp : p < n) : pv n (nx n p) = p := by
  unfold nx
  split
  · unfold pv; rw [if_neg (by omega)]; omega
  · unfold pv; rw [if_pos rfl]; omega
theorem nx_ne {n p : Nat} (h2 : 2 ≤ n) (hp : p < n) : nx n p ≠ p := by unfold nx; split <;> omega
theorem far_nx {n h p : Nat} (hh : h < n) (hp : p < n) (e : nx n p ≠ h) : far n h (nx n p) = far n h p + 1 := by
  unfold nx at *; unfold far
  split at e <;> rename_i h1
  · rw [if_pos h1]; split <;> split <;> omega
  · rw [if_neg h1]; split <;> split <;> omega
theorem far_last {n h p : Nat} (hh : h < n) (hp : p < n) (e : nx n p = h) : far n h p = n - 1 := by
  unfold nx at *; unfold far
  split at e <;> split <;> omega
theorem far_pv {n h p : Nat} (hh : h < n) (hp : p < n) (e : p ≠ h) : far n h (pv n p) + 1 = far n h p := by
  have := far_nx (n := n) (h := h) (p := pv n p) hh (pv_lt hp) (by rw [nx_pv hp]; exact e)
  rw [nx_pv hp] at this; omega
theorem far_le {n h p q : Nat} (hh : h < n) (hp : p < n) (hq : q < n) (e : nx n p ≠ h) : far n h q < far n h (nx n p) ↔ far n h q < far n h p ∨ q = p := by
  rw [far_nx hh hp e]
  constructor
  · intro h1
    by_cases h2 : far n h q < far n h p
    · exact .inl h2
    · exact .inr (far_inj hh hq hp (by omega))
  · rintro (h1 | rfl) <;> omega
/-- the way to an empty seat grows shorter -/
theorem far_to {n p e : Nat} (hp : p < n) (he : e < n) (h : p ≠ e) : far n (nx n p) e + 1 = far n p e := by
  unfold nx far
  split <;> split <;> split <;> omega

def fup (f : Nat → Option Int) (p : Nat) (v : Option Int) : Nat → Option Int := fun q => if q = p then v else f q
theorem fup_same {f : Nat → Option Int} {p : Nat} {v : Option Int} : fup f p v p = v := by unfold fup; rw [if_pos rfl]
theorem fup_ne {f : Nat → Option Int} {p q : Nat} {v : Option Int} (h : q ≠ p) : fup f p v q = f q := by unfold fup; rw [if_neg h]

section
variable (n : Nat) (h : Int → Nat)
/-- y goes ahead of g at seat q -/
def Ah (y g : Int) (q : Nat) : Prop := far n (h g) q < far n (h y) q ∨ (far n (h y) q = far n (h g) q ∧ y < g)
instance (y g : Int) (q : Nat) : Decidable (Ah n h y g q) := by unfold Ah; exact inferInstance
def Car (f : Nat → Option Int) (g : Int) (p : Nat) : Prop := ∀ q, q < n → far n (h g) q < far n (h g) p → ∃ y, f q = some y ∧ Ah n h y g q
def Path (f : Nat → Option Int) : Prop := ∀ p, p < n → ∀ g, f p = some g → Car n h f g p
def Sits (f : Nat → Option Int) (g : Int) : Prop := ∃ p, p < n ∧ f p = some g
/-- where a look for g ends -/
def Loc (f : Nat → Option Int) (g : Int) (p : Nat) : Prop := Car n h f g p ∧ ∀ y, f p = some y → ¬ Ah n h y g p
end
section
variable {n : Nat} {h : Int → Nat} {f : Nat → Option Int}
theorem ah_irr {g : Int} {q : Nat} : ¬ Ah n h g g q := by unfold Ah; omega
theorem ah_asym {y g : Int} {q : Nat} (a : Ah n h y g q) : ¬ Ah n h g y q := by unfold Ah at *; omega
theorem ah_tot {y g : Int} {q : Nat} (a : ¬ Ah n h y g q) (e : y ≠ g) : Ah n h g y q := by unfold Ah at *; omega
theorem ah_trans {x y z : Int} {q : Nat} (a : Ah n h x y q) (b : Ah n h y z q) : Ah n h x z q := by unfold Ah at *; omega
theorem ah_nx (hh : ∀ g, h g < n) {y z : Int} {p : Nat} (hp : p < n) (ey : nx n p ≠ h y) (ez : nx n p ≠ h z) : Ah n h y z (nx n p) ↔ Ah n h y z p := by
  unfold Ah; rw [far_nx (hh _) hp ey, far_nx (hh _) hp ez]; omega
theorem car_home {g : Int} : Car n h f g (h g) := fun q _ a => by rw [far_self] at a; omega
theorem car_nx (hh : ∀ g, h g < n) {g y : Int} {p : Nat} (hp : p < n) (c : Car n h f g p) (e : f p = some y) (a : Ah n h y g p) : Car n h f g (nx n p) := by
  by_cases w : nx n p = h g
  · rw [w]; exact car_home
  · intro q hq hl
    rcases (far_le (hh g) hp hq w).mp hl with h1 | rfl
    · exact c q hq h1
    · exact ⟨y, e, a⟩
/-- no guest is carried round the whole ring while a seat is empty -/
theorem no_wrap (hh : ∀ g, h g < n) {g : Int} {p e : Nat} (hp : p < n) (he : e < n) (h0 : f e = none) (c : Car n h f g p) (h1 : f p ≠ none) : nx n p ≠ h g := by
  intro w
  have hl := far_last (hh g) hp w
  by_cases ee : e = p
  · exact h1 (ee ▸ h0)
  have : far n (h g) e < far n (h g) p := by
    have h3 := far_lt (hh g) he
    have : far n (h g) e ≠ far n (h g) p := fun x => ee (far_inj (hh g) he hp x)
    omega
  obtain ⟨y, hy, _⟩ := c e he this
  rw [h0] at hy; cases hy
theorem path_one (hh : ∀ g, h g < n) (P : Path n h f) {x : Int} {p q : Nat} (hp : p < n) (hq : q < n) (e1 : f p = some x) (e2 : f q = some x) : p = q := by
  by_cases e : far n (h x) p = far n (h x) q
  · exact far_inj (hh x) hp hq e
  by_cases l : far n (h x) p < far n (h x) q
  · obtain ⟨y, hy, a⟩ := P q hq x e2 p hp l
    rw [e1] at hy; cases hy; exact absurd a ah_irr
  · obtain ⟨y, hy, a⟩ := P p hp x e1 q hq (by omega)
    rw [e2] at hy; cases hy; exact absurd a ah_irr
theorem loc_one (hh : ∀ g, h g < n) {g : Int} {p q : Nat} (hp : p < n) (hq : q < n) (a : Loc n h f g p) (b : Loc n h f g q) : p = q := by
  by_cases e : far n (h g) p = far n (h g) q
  · exact far_inj (hh g) hp hq e
  by_cases l : far n (h g) p < far n (h g) q
  · obtain ⟨y, hy, c⟩ := b.1 p hp l
    exact absurd c (a.2 y hy)
  · obtain ⟨y, hy, c⟩ := a.1 q hq (by omega)
    exact absurd c (b.2 y hy)
theorem path_loc (P : Path n h f) {g : Int} {p : Nat} (hp : p < n) (e : f p = some g) : Loc n h f g p := ⟨P p hp g e, fun y hy => by rw [e] at hy; cases hy; exact ah_irr⟩
/-- a guest sits where the look ends, or nowhere -/
theorem loc_sits (hh : ∀ g, h g < n) (P : Path n h f) {g : Int} {p : Nat} (hp : p < n) (l : Loc n h f g p) : Sits n f g ↔ f p = some g :=
  ⟨fun ⟨q, hq, e⟩ => by rw [loc_one hh hp hq l (path_loc P hq e)]; exact e, fun e => ⟨p, hp, e⟩⟩
theorem step_put {g : Int} {p : Nat} (P : Path n h f) (c : Car n h f g p) (e : f p = none) : Path n h (fup f p (some g)) := by
  intro q hq x hx
  by_cases w : q = p
  · subst w; rw [fup_same] at hx; cases hx
    intro r hr hl
    have : r ≠ q := fun e => by rw [e] at hl; omega
    rw [fup_ne this]; exact c r hr hl
  · rw [fup_ne w] at hx
    intro r hr hl
    obtain ⟨y, hy, a⟩ := P q hq x hx r hr hl
    have : r ≠ p := fun z => by rw [z, e] at hy; cases hy
    rw [fup_ne this]; exact ⟨y, hy, a⟩
theorem step_swap (hh : ∀ g, h g < n) {g y : Int} {p : Nat} (hp : p < n) (P : Path n h f) (c : Car n h f g p) (e : f p = some y) (a : Ah n h g y p) :
    Path n h (fup f p (some g)) ∧ Car n h (fup f p (some g)) y (nx n p) := by
  constructor
  · intro q hq x hx
    by_cases w : q = p
    · subst w; rw [fup_same] at hx; cases hx
      intro r hr hl
      have : r ≠ q := fun e => by rw [e] at hl; omega
      rw [fup_ne this]; exact c r hr hl
    · rw [fup_ne w] at hx
      intro r hr hl
      obtain ⟨z, hz, b⟩ := P q hq x hx r hr hl
      by_cases w2 : r = p
      · subst w2; rw [fup_same]; rw [e] at hz; cases hz
        exact ⟨g, rfl, ah_trans a b⟩
      · rw [fup_ne w2]; exact ⟨z, hz, b⟩
  · refine car_nx hh hp (y := g) ?_ fup_same a
    intro r hr hl
    have : r ≠ p := fun e => by rw [e] at hl; omega
    rw [fup_ne this]; exact P p hp y e r hr hl
/-- who is pushed on goes ahead of who sits on the next seat -/
theorem push_next (h2 : 2 ≤ n) (hh : ∀ g, h g < n) {y z : Int} {p e : Nat} (hp : p < n) (he : e < n) (h0 : f e = none) (P : Path n h f) (ey : f p = some y) (ez : f (nx n p) = some z) : Ah n h y z (nx n p) := by
  have wy := no_wrap hh hp he h0 (P p hp y ey) (by rw [ey]; exact fun x => nomatch x)
  by_cases wz : nx n p = h z
  · have : far n (h z) (nx n p) = 0 := by rw [wz]; exact far_self
    refine .inl ?_
    rw [this, far_nx (hh y) hp wy]; omega
  · rw [ah_nx hh hp wy wz]
    obtain ⟨y', hy', a⟩ := P _ (nx_lt hp) z ez p hp (by rw [far_nx (hh z) hp wz]; omega)
    rw [ey] at hy'; cases hy'; exact a
/-- who sits away from home has one ahead of it on the seat before -/
theorem path_before (hh : ∀ g, h g < n) (P : Path n h f) {g : Int} {p : Nat} (hp : p < n) (e : f p = some g) (w : h g ≠ p) : ∃ y, f (pv n p) = some y ∧ Ah n h y g (pv n p) :=
  P p hp g e _ (pv_lt hp) (by have := far_pv (hh g) hp (fun z => w z.symm); omega)
/-! who sits, behind a step -/
theorem sits_put {g : Int} {p : Nat} (hp : p < n) (e : f p = none) (x : Int) : Sits n (fup f p (some g)) x ↔ Sits n f x ∨ x = g := by
  constructor
  · rintro ⟨q, hq, hx⟩
    by_cases w : q = p
    · subst w; rw [fup_same] at hx; cases hx; exact .inr rfl
    · rw [fup_ne w] at hx; exact .inl ⟨q, hq, hx⟩
  · rintro (⟨q, hq, hx⟩ | rfl)
    · have w : q ≠ p := fun z => by rw [z, e] at hx; cases hx
      exact ⟨q, hq, by rw [fup_ne w]; exact hx⟩
    · exact ⟨p, hp, fup_same⟩
theorem sits_swap {g y : Int} {p : Nat} (hp : p < n) (e : f p = some y) (x : Int) : (Sits n (fup f p (some g)) x ∨ x = y) ↔ (Sits n f x ∨ x = g) := by
  constructor
  · rintro (⟨q, hq, hx⟩ | rfl)
    · by_cases w : q = p
      · subst w; rw [fup_same] at hx; cases hx; exact .inr rfl
      · rw [fup_ne w] at hx; exact .inl ⟨q, hq, hx⟩
    · exact .inl ⟨p, hp, e⟩
  · rintro (⟨q, hq, hx⟩ | rfl)
    · by_cases w : q = p
      · subst w; rw [e] at hx; cases hx; exact .inr rfl
      · exact .inl ⟨q, hq, by rw [fup_ne w]; exact hx⟩
    · exact .inl ⟨p, hp, fup_same⟩
/-! taking a guest out: seat `at` is open, its entry stale -/
def PathX (n : Nat) (h : Int → Nat) (f : Nat → Option Int) (o : Nat) : Prop := ∀ q, q < n → q ≠ o → ∀ x, f q = some x → Car n h f x q
def SitsX (n : Nat) (f : Nat → Option Int) (o : Nat) (g : Int) : Prop := ∃ p, p < n ∧ p ≠ o ∧ f p = some g
theorem pathX_of (P : Path n h f) (o : Nat) : PathX n h f o := fun q hq _ x hx => P q hq x hx
theorem out_step (h2 : 2 ≤ n) (hh : ∀ g, h g < n) {y w : Int} {o : Nat} (ho : o < n) (P : PathX n h f o) (hw : f o = some w) (e : f (nx n o) = some y) (a : h y ≠ nx n o) :
    PathX n h (fup f o (some y)) (nx n o) := by
  have hb := nx_lt ho
  have hne := nx_ne h2 ho
  intro q hq wq x hx
  by_cases c1 : q = o
  · subst c1; rw [fup_same] at hx; cases hx
    intro r hr hl
    have : r ≠ q := fun e => by rw [e] at hl; omega
    rw [fup_ne this]
    exact P _ hb hne y e r hr (by rw [far_nx (hh y) ho (fun z => a z.symm)]; omega)
  · rw [fup_ne c1] at hx
    intro r hr hl
    by_cases c2 : r = o
    · subst c2; rw [fup_same]
      refine ⟨y, rfl, ?_⟩
      have hx2 : nx n r ≠ h x := fun z => by
        have := far_last (hh x) ho z
        have := far_lt (hh x) hq
        omega
      have hl2 : far n (h x) (nx n r) < far n (h x) q := by
        have h3 := far_nx (hh x) ho hx2
        have : far n (h x) (nx n r) ≠ far n (h x) q := fun z => wq (far_inj (hh x) hb hq z).symm
        omega
      obtain ⟨y', hy', ah⟩ := P q hq c1 x hx _ hb hl2
      rw [e] at hy'; cases hy'
      exact (ah_nx hh ho (fun z => a z.symm) hx2).mp ah
    · rw [fup_ne c2]; exact P q hq c1 x hx r hr hl
theorem out_sits (h2 : 2 ≤ n) {y : Int} {o : Nat} (ho : o < n) (e : f (nx n o) = some y) (x : Int) : SitsX n (fup f o (some y)) (nx n o) x ↔ SitsX n f o x := by
  have hne := nx_ne h2 ho
  constructor
  · rintro ⟨q, hq, c, hx⟩
    by_cases w : q = o
    · subst w; rw [fup_same] at hx; cases hx; exact ⟨_, nx_lt ho, hne, e⟩
    · rw [fup_ne w] at hx; exact ⟨q, hq, w, hx⟩
  · rintro ⟨q, hq, c, hx⟩
    by_cases w : q = nx n o
    · subst w; rw [e] at hx; cases hx; exact ⟨o, ho, fun z => hne z.symm, fup_same⟩
    · exact ⟨q, hq, w, by rw [fup_ne c]; exact hx⟩
theorem out_end (h2 : 2 ≤ n) (hh : ∀ g, h g < n) {o : Nat} (ho : o < n) (P : PathX n h f o) (e : ∀ y, f (nx n o) = some y → h y = nx n o) : Path n h (fup f o none) := by
  have hb := nx_lt ho
  have hne := nx_ne h2 ho
  intro q hq x hx
  by_cases c1 : q = o
  · subst c1; rw [fup_same] at hx; cases hx
  · rw [fup_ne c1] at hx
    intro r hr hl
    by_cases c2 : r = o
    · subst c2
      exfalso
      have hx2 : nx n r ≠ h x := fun z => by
        have := far_last (hh x) ho z
        have := far_lt (hh x) hq
        omega
      by_cases c3 : q = nx n r
      · subst c3; exact hx2 (e x hx).symm
      · have h3 := far_nx (hh x) ho hx2
        have : far n (h x) (nx n r) ≠ far n (h x) q := fun z => c3 (far_inj (hh x) hb hq z).symm
        obtain ⟨y, hy, ah⟩ := P q hq c1 x hx _ hb (by omega)
        have e1 := e y hy
        have : far n (h y) (nx n r) = 0 := by rw [e1]; exact far_self
        unfold Ah at ah; omega
    · rw [fup_ne c2]; exact P q hq c1 x hx r hr hl
theorem outEnd_sits {o : Nat} (x : Int) : Sits n (fup f o none) x ↔ SitsX n f o x := by
  constructor
  · rintro ⟨q, hq, hx⟩
    by_cases w : q = o
    · subst w; rw [fup_same] at hx; cases hx
    · rw [fup_ne w] at hx; exact ⟨q, hq, w, hx⟩
  · rintro ⟨q, hq, c, hx⟩
    exact ⟨q, hq, by rw [fup_ne c]; exact hx⟩
theorem sitsX_of (hh : ∀ g, h g < n) (P : Path n h f) {o : Nat} {g : Int} (ho : o < n) (e : f o = some g) (x : Int) : SitsX n f o x ↔ Sits n f x ∧ x ≠ g := by
  constructor
  · rintro ⟨q, hq, c, hx⟩
    exact ⟨⟨q, hq, hx⟩, fun z => c (path_one hh P hq ho hx (z ▸ e))⟩
  · rintro ⟨⟨q, hq, hx⟩, c⟩
    exact ⟨q, hq, fun z => by rw [z, e] at hx; cases hx; exact c rfl, hx⟩
/-! one settled seating alone -/
theorem far_before {n h p q e : Nat} (hh : h < n) (hp : p < n) (hq : q < n) (he : e < n) (h1 : far n h p < far n h q) (h2 : far n h q < far n h e) : far n (nx n e) p < far n (nx n e) q := by
  unfold nx
  split
  · unfold far at *; split <;> split <;> (split at h1 <;> split at h1 <;> split at h2 <;> split at h2 <;> omega)
  · unfold far at *; split <;> split <;> (split at h1 <;> split at h1 <;> split at h2 <;> split at h2 <;> omega)
theorem one_side (hh : ∀ g, h g < n) {s t : Nat → Option Int} (S : Path n h s) (T : Path n h t) (st : ∀ g, Sits n t g → Sits n s g) {e : Nat} (he : e < n) (h0 : t e = none) :
    ∀ (m : Nat) (g : Int) (p q : Nat), p < n → q < n → s p = some g → t q = some g → far n (nx n e) q ≤ m → ¬ far n (h g) p < far n (h g) q := by
  intro m
  induction m with
  | zero =>
    intro g p q hp hq hs ht hm hl
    have c := T q hq g ht
    have : far n (h g) q < far n (h g) e := by
      have h1 : e ≠ q := fun z => by rw [← z, h0] at ht; cases ht
      have h3 : far n (h g) e ≠ far n (h g) q := fun z => h1 (far_inj (hh g) he hq z)
      by_cases h4 : far n (h g) e < far n (h g) q
      · obtain ⟨y, hy, _⟩ := c e he h4; rw [h0] at hy; cases hy
      · omega
    have := far_before (hh g) hp hq he hl this
    omega
  | succ m ih =>
    intro g p q hp hq hs ht hm hl
    have c := T q hq g ht
    have h5 : far n (h g) q < far n (h g) e := by
      have h1 : e ≠ q := fun z => by rw [← z, h0] at ht; cases ht
      have h3 : far n (h g) e ≠ far n (h g) q := fun z => h1 (far_inj (hh g) he hq z)
      by_cases h4 : far n (h g) e < far n (h g) q
      · obtain ⟨y, hy, _⟩ := c e he h4; rw [h0] at hy; cases hy
      · omega
    have h6 := far_before (hh g) hp hq he hl h5
    obtain ⟨y, hy, a⟩ := c p hp hl
    obtain ⟨p', hp', hy'⟩ := st y ⟨p, hp, hy⟩
    refine ih y p' p hp' hp hy' hy (by omega) ?_
    have h7 : p' ≠ p := fun z => by
      rw [z, hs] at hy'; cases hy'; exact ah_irr a
    have h8 : far n (h y) p' ≠ far n (h y) p := fun z => h7 (far_inj (hh y) hp' hp z)
    by_cases h9 : far n (h y) p < far n (h y) p'
    · obtain ⟨z, hz, b⟩ := S p' hp' y hy' p hp h9
      rw [hs] at hz; cases hz
      exact absurd b (ah_asym a)
    · omega
theorem alike (hh : ∀ g, h g < n) {s t : Nat → Option Int} (S : Path n h s) (T : Path n h t) (st : ∀ g, Sits n t g ↔ Sits n s g) (h0 : ∃ e, e < n ∧ t e = none) (h1 : ∃ e, e < n ∧ s e = none) :
    ∀ p, p < n → s p = t p := by
  obtain ⟨e, he, h0⟩ := h0
  obtain ⟨e', he', h1⟩ := h1
  have key : ∀ p g, p < n → (s p = some g ↔ t p = some g) := by
    intro p g hp
    constructor
    · intro hs
      obtain ⟨q, hq, ht⟩ := (st g).mpr ⟨p, hp, hs⟩
      have a := one_side hh S T (fun g => (st g).mp) he h0 _ g p q hp hq hs ht (Nat.le_refl _)
      have b := one_side hh T S (fun g => (st g).mpr) he' h1 _ g q p hq hp ht hs (Nat.le_refl _)
      rw [far_inj (hh g) hp hq (by omega)]; exact ht
    · intro ht
      obtain ⟨q, hq, hs⟩ := (st g).mp ⟨p, hp, ht⟩
      have a := one_side hh S T (fun g => (st g).mp) he h0 _ g q p hq hp hs ht (Nat.le_refl _)
      have b := one_side hh T S (fun g => (st g).mpr) he' h1 _ g p q hp hq ht hs (Nat.le_refl _)
      rw [far_inj (hh g) hp hq (by omega)]; exact hs
  intro p hp
  cases hs : s p with
  | some g => exact ((key p g hp).mp hs).symm
  | none =>
    cases ht : t p with
    | none => rfl
    | some g => rw [(key p g hp).mpr ht] at hs; cases hs
end
end Ring
/-! ### who sits, as a list -/
namespace Ring
def gl (n : Nat) (f : Nat → Option Int) : List Int := (List.range n).filterMap f
def em (n : Nat) (f : Nat → Option Int) : Nat := (List.range n).countP (fun p => (f p).isNone)
theorem mem_gl {n : Nat} {f : Nat → Option Int} {x : Int} : x ∈ gl n f ↔ Sits n f x := by
  unfold gl Sits
  rw [List.mem_filterMap]
  exact ⟨fun ⟨p, hp, e⟩ => ⟨p, List.mem_range.mp hp, e⟩, fun ⟨p, hp, e⟩ => ⟨p, List.mem_range.mpr hp, e⟩⟩
theorem fm_len (l : List Nat) (f : Nat → Option Int) : (l.filterMap f).length + l.countP (fun p => (f p).isNone) = l.length := by
  induction l with
  | nil => rfl
  | cons a l ih =>
    cases e : f a with
    | none => rw [List.filterMap_cons_none e, List.countP_cons_of_pos (by simp [e]), List.length_cons]; omega
    | some y => rw [List.filterMap_cons_some e, List.countP_cons_of_neg (by simp [e]), List.length_cons, List.length_cons]; omega
theorem gl_em (n : Nat) (f : Nat → Option Int) : (gl n f).length + em n f = n := by
  have := fm_len (List.range n) f
  rw [List.length_range] at this; exact this
theorem em_pos {n : Nat} {f : Nat → Option Int} : 0 < em n f ↔ ∃ e, e < n ∧ f e = none := by
  unfold em
  rw [List.countP_pos_iff]
  constructor
  · rintro ⟨a, ha, e⟩; exact ⟨a, List.mem_range.mp ha, by simpa using e⟩
  · rintro ⟨a, ha, e⟩; exact ⟨a, List.mem_range.mpr ha, by simpa using e⟩
theorem fm_nodup (l : List Nat) (hl : l.Nodup) (f : Nat → Option Int) (one : ∀ p q x, p ∈ l → q ∈ l → f p = some x → f q = some x → p = q) : (l.filterMap f).Nodup := by
  induction l with
  | nil => exact List.nodup_nil
  | cons a l ih =>
    obtain ⟨h1, h2⟩ := List.nodup_cons.mp hl
    have ih' := ih h2 fun p q x hp hq => one p q x (List.mem_cons_of_mem _ hp) (List.mem_cons_of_mem _ hq)
    cases e : f a with
    | none => rw [List.filterMap_cons_none e]; exact ih'
    | some y =>
      rw [List.filterMap_cons_some e]
      refine List.nodup_cons.mpr ⟨fun hm => ?_, ih'⟩
      obtain ⟨b, hb, e2⟩ := List.mem_filterMap.mp hm
      have := one a b y List.mem_cons_self (List.mem_cons_of_mem _ hb) e e2
      exact h1 (this ▸ hb)
theorem gl_nodup {n : Nat} {h : Int → Nat} {f : Nat → Option Int} (hh : ∀ g, h g < n) (P : Path n h f) : (gl n f).Nodup :=
  fm_nodup _ List.nodup_range f fun _ _ _ hp hq e1 e2 => path_one hh P (List.mem_range.mp hp) (List.mem_range.mp hq) e1 e2
theorem perm_of {a b : List Int} (ha : a.Nodup) (hb : b.Nodup) (e : ∀ x, x ∈ a ↔ x ∈ b) : a.Perm b := (List.perm_ext_iff_of_nodup ha hb).mpr e
theorem gl_perm {n : Nat} {h : Int → Nat} {f : Nat → Option Int} (hh : ∀ g, h g < n) (P : Path n h f) {gs : List Int} (hn : gs.Nodup) (e : ∀ x, Sits n f x ↔ x ∈ gs) : (gl n f).Perm gs :=
  perm_of (gl_nodup hh P) hn fun x => by rw [mem_gl]; exact e x
theorem em_of {n : Nat} {h : Int → Nat} {f : Nat → Option Int} (hh : ∀ g, h g < n) (P : Path n h f) {gs : List Int} (hn : gs.Nodup) (e : ∀ x, Sits n f x ↔ x ∈ gs) : em n f + gs.length = n := by
  have := gl_em n f
  rw [(gl_perm hh P hn e).length_eq] at this; omega
/-- no seat, no guest -/
theorem path_none {n : Nat} {h : Int → Nat} : Path n h (fun _ => none) := fun _ _ _ e => nomatch e
theorem sits_none {n : Nat} {x : Int} : ¬ Sits n (fun _ => none) x := fun ⟨_, _, e⟩ => nomatch e
/-- a look ends: where a seat is empty -/
theorem loc_or (n : Nat) (h : Int → Nat) (f : Nat → Option Int) (g : Int) (p : Nat) : (f p = none ∨ (∃ y, f p = some y ∧ ¬ Ah n h y g p)) ∨ ∃ y, f p = some y ∧ Ah n h y g p := by
  cases e : f p with
  | none => exact .inl (.inl rfl)
  | some y =>
    by_cases a : Ah n h y g p
    · exact .inr ⟨y, rfl, a⟩
    · exact .inl (.inr ⟨y, rfl, a⟩)
end Ring
namespace Ring
theorem swap_out {n : Nat} {h : Int → Nat} {f : Nat → Option Int} (hh : ∀ g, h g < n) (P : Path n h f) {g y : Int} {p : Nat} (hp : p < n) (e : f p = some y) (ng : ¬ Sits n f g) : ¬ Sits n (fup f p (some g)) y := by
  rintro ⟨q, hq, hx⟩
  by_cases w : q = p
  · subst w; rw [fup_same] at hx; cases hx; exact ng ⟨q, hq, e⟩
  · rw [fup_ne w] at hx; exact w (path_one hh P hq hp hx e)
end Ring
/-! ### the home of a guest, how far it is carried, who goes ahead: as the program reckons, and on the ring -/
namespace RS
def homeI (g n : Int) : Int := (g * 40503 + g / 65536) % 65536 % n
def farI (g p n : Int) : Int := (p - homeI g n) % n
def aheadI (a b p n : Int) : Bool := decide (farI b p n < farI a p n ∨ (farI a p n = farI b p n ∧ a < b))
def hm (n : Nat) (g : Int) : Nat := (homeI g n).toNat
theorem homeI_lo {g n : Int} (hn : 0 < n) : 0 ≤ homeI g n := Int.emod_nonneg _ (by omega)
theorem homeI_hi {g n : Int} (hn : 0 < n) : homeI g n < n := Int.emod_lt_of_pos _ hn
theorem farI_lo {g p n : Int} (hn : 0 < n) : 0 ≤ farI g p n := Int.emod_nonneg _ (by omega)
theorem farI_hi {g p n : Int} (hn : 0 < n) : farI g p n < n := Int.emod_lt_of_pos _ hn
theorem hm_is {n : Nat} (hn : 0 < n) (g : Int) : homeI g n = (hm n g : Int) := by
  have := homeI_lo (g := g) (n := n) (by omega)
  unfold hm; omega
theorem hm_lt {n : Nat} (hn : 0 < n) (g : Int) : hm n g < n := by
  have := homeI_hi (g := g) (n := n) (by omega)
  have := hm_is hn g
  omega
theorem mod_far {n h p : Nat} (hh : h < n) (hp : p < n) : ((p : Int) - (h : Int)) % (n : Int) = (Ring.far n h p : Int) := by
  unfold Ring.far
  split
  · rw [Int.emod_eq_of_lt (by omega) (by omega)]; omega
  · rw [← Int.add_emod_right, Int.emod_eq_of_lt (by omega) (by omega)]; omega
theorem far_is {n p : Nat} (hp : p < n) (g : Int) : farI g p n = (Ring.far n (hm n g) p : Int) := by
  have hn : 0 < n := by omega
  unfold farI
  rw [hm_is hn, mod_far (hm_lt hn g) hp]
theorem nx_is {n p : Nat} (hp : p < n) : ((p : Int) + 1) % (n : Int) = (Ring.nx n p : Int) := by
  unfold Ring.nx
  split
  · rw [Int.emod_eq_of_lt (by omega) (by omega)]; omega
  · have : (p : Int) + 1 = n := by omega
    rw [this, Int.emod_self]; rfl
theorem pv_is {n p : Nat} (hp : p < n) : ((p : Int) - 1) % (n : Int) = (Ring.pv n p : Int) := by
  unfold Ring.pv
  split
  · rename_i e
    rw [← Int.add_emod_right, Int.emod_eq_of_lt (by omega) (by omega)]; omega
  · rw [Int.emod_eq_of_lt (by omega) (by omega)]; omega
theorem ahead_is {n p : Nat} (hp : p < n) (a b : Int) : aheadI a b p n = decide (Ring.Ah n (hm n) a b p) := by
  unfold aheadI Ring.Ah
  rw [far_is hp, far_is hp]
  refine decide_eq_decide.mpr ?_
  constructor
  · rintro (h | ⟨h1, h2⟩)
    · exact .inl (by omega)
    · exact .inr ⟨by omega, h2⟩
  · rintro (h | ⟨h1, h2⟩)
    · exact .inl (by omega)
    · exact .inr ⟨by omega, h2⟩
end RS
/-! ### words of our own: a def that stands behind the top, a def that keeps its promise, the call of one -/
namespace RS
open PySem PySem.Spec PyProof.Rows L2

abbrev rAdd : R2 := rI0 fun i j => .int (i + j)
abbrev rSub : R2 := rI0 fun i j => .int (i - j)
abbrev rMod : R2 := rI (fun _ j => 0 < j) fun i j => .int (i % j)
abbrev rFdv : R2 := rI CDiv fun i j => .int (i / j)
abbrev rLt : R2 := rI0 fun i j => .bl (decide (i < j))
abbrev rLe : R2 := rI0 fun i j => .bl (decide (i ≤ j))
abbrev rGt : R2 := rI0 fun i j => .bl (decide (j < i))
abbrev rGe : R2 := rI0 fun i j => .bl (decide (j ≤ i))
abbrev rNeg : V → Hp → VK → Prop := rU fun i => .int (-i)
/-- one factor within 64 bits -/
def CMl (i j : Int) : Prop := (-18446744073709551616 < i ∧ i < 18446744073709551616) ∨ (-18446744073709551616 < j ∧ j < 18446744073709551616)
theorem CMl.ok {i j : Int} (h : CMl i j) : CMul i j := h
abbrev rMul : R2 := rI CMl fun i j => .int (i * j)
theorem op_mulL {X : Cx} : OpR X (binaryOp .Mult) rMul := by
  intro pins s σ H x y u v Q I rx ry h
  obtain ⟨i, j, hx, hy, hc, q⟩ := h
  exact op_mul pins s σ H x y u v Q I rx ry ⟨i, j, hx, hy, hc.ok, q⟩
/-- a power of two written numbers, by its value -/
theorem pe_pow {X : Cx} {a b : Int} {m n N : Nat} {j1 j2 : Nat} {p1 p2 pos : Pos} (ha : a = (m : Int)) (hb : b = (n : Int)) (hN : m ^ n = N) (hn : (n : Int) ≤ 1000000) (hm : m < 18446744073709551616) :
    PE X (.BinOp (.Constant (.int a) j1 p1) .Pow (.Constant (.int b) j2 p2) pos) (tC (.int (N : Int))) := by
  refine ⟨fun pins s σ H Q I h => ?_⟩
  refine (pe_op op_pow pe_int pe_int).run pins s σ H Q I ⟨a, b, rfl, rfl, ⟨by omega, by omega, by subst ha; rw [Int.natAbs_natCast]; exact hm⟩, ?_⟩
  show Q (.int (a ^ b.toNat)) H
  rw [hb, Int.toNat_natCast, ha, ← Int.natCast_pow, hN]
  exact h
def rLenS (K : PySem.W.Frag) : List V → Hp → VK → Prop := fun xs H Q => ∃ p ys, xs = [.ref p] ∧ (SqL K H p ys ∨ SqT K H p ys) ∧ Q (.int ys.length) H
def rLenD : List V → Hp → VK → Prop := fun xs H Q => ∃ a kvs, xs = [V.ref a] ∧ H a = some (.dK kvs) ∧ Q (.int kvs.length) H
def rListS (K : PySem.W.Frag) : List V → Hp → VK → Prop := fun xs H Q => ∃ p ys, xs = [.ref p] ∧ (SqL K H p ys ∨ SqT K H p ys) ∧ ∀ l, H l = none → Q (.ref l) (upd H l (.lst ys))
def rMax2 : List V → Hp → VK → Prop := fun xs H Q => ∃ i j, xs = [.int i, .int j] ∧ Q (.int (if j > i then j else i)) H
def rMin2 : List V → Hp → VK → Prop := fun xs H Q => ∃ i j, xs = [.int i, .int j] ∧ Q (.int (if j < i then j else i)) H
def rInt1 : List V → Hp → VK → Prop := fun xs H Q => (∃ i, xs = [.int i] ∧ Q (.int i) H) ∨ ∃ k, xs = [.bl k] ∧ Q (.int (if k then 1 else 0)) H
def rStr1 : List V → Hp → VK → Prop := fun xs H Q => ∃ i, xs = [.int i] ∧ i.natAbs.log2 < 1920 ∧ Q (.str (toString i)) H

/-- the program's classes, by where they stand -/
structure Cs where
  cRingError : Addr
  cNoGuest : Addr
  cNoSize : Addr
  cTwice : Addr
  cAway : Addr
  cFull : Addr
  cHouse : Addr

/-- a def of the text, by its name -/
structure Def (K : PySem.W.Frag) (mg : Str → Option Value) (x : Str) (st : Stmt) : Prop where
  ex : ∃ f fd, Fun K x x st f fd ∧ mg x = some (.ref f)
theorem def_mk {K : PySem.W.Frag} {h : Heap} {mg : Str → Option Value} {x : Str} {st : Stmt} {f : Addr} (X : K.In h) (G : h.Ns mainGlobals mg)
    {od an : Option Addr} {sl : Array (Option Value)} {oc kV dc pm cd ct : Value}
    (a : PySem.W.nsIn K mainGlobals x = some (some (.ref f))) (l : K.lookup f = some ⟨oc, od, .func (PySem.W.fnOf x x (defArgs st) (defBody st) (defScope st) .none kV dc pm an cd ct), sl⟩)
    (c : PySem.W.codeIn K cd x = true) (k : PySem.W.keepIn K (.ref f) = true) : Def K mg x st :=
  ⟨f, _, fun_mk l c k, PySem.W.mg_of X G a⟩

/-- a def that keeps its promise, by its name -/
structure Cal (P : Program) (w : World) (K : PySem.W.Frag) (mg : Str → Option Value) (base : Heap) (CX : CXT) (k : Nat) (x : Str) (ps : List Str) (sp : Sp) : Prop where
  ex : ∃ f fd, FnOk P w K mg base CX k f fd ps sp ∧ mg x = some (.ref f) ∧ PySem.W.keepIn K (.ref f) = true ∧ Binds K fd ps []
section
variable {X : Cx} {CX : CXT} {k : Nat} {ps : List Str} {sp : Sp} {E : XK} {x : Str} {p pos : Pos} {e : Expr} {es : List Expr} {t : TA}
theorem pe_fn (c : Cal X.prog X.w X.K X.mg X.base CX k x ps sp) (hr : Room k X.A) (hx : Passes CX X E) (ha : PA X (e :: es) t) (hg : Gl X x := by rfl) (hdb : (x == ("__debug__" : Str)) = false := by decide)
    (he : starEach (e :: es) X.env = (false, eval e X.env) :: starEach es X.env := by rfl) (hpl : (backTo pos (starEach es X.env)).any (·.1) = false := by rfl) :
    PE X (.Call (.Name x p) (e :: es) [] pos) (tCall sp [] E t) := by
  obtain ⟨f, fd, G, hm, hk, hb⟩ := c.ex
  exact pe_call G hr hg hm hk hb .nil hx ha hdb he hpl
end
theorem iteB {c : Bool} {A B : Prop} (h1 : c = true → A) (h2 : c = false → B) : if c = true then A else B := by
  cases c with
  | true => rw [if_pos rfl]; exact h1 rfl
  | false => rw [if_neg Bool.false_ne_true]; exact h2 rfl
end RS
/-! ### isinstance of the built-in kinds, by what a value is -/
namespace RS
open PySem PySem.Spec PyProof.Rows L2
inductive Ty where
  | int | bool | none | str | list | tuple | dict
  deriving DecidableEq
def Ty.nm : Ty → String
  | .int => "int" | .bool => "bool" | .none => "NoneType" | .str => "str" | .list => "list" | .tuple => "tuple" | .dict => "dict"
def Ty.isA : Ty → Ty → Bool
  | .int, .int => true | .bool, .bool => true | .bool, .int => true | .none, .none => true | .str, .str => true | .list, .list => true | .tuple, .tuple => true | .dict, .dict => true | _, _ => false
def hoTy : HO → Option Ty
  | .lst _ => some .list | .tup _ => some .tuple | .dK _ => some .dict | .frz _ (.lst _) => some .list | _ => Option.none
def tyOf (H : Hp) : V → Option Ty
  | .int _ => some .int | .bl _ => some .bool | .non => some .none | .str _ => some .str
  | .ref a => (H a).bind hoTy
  | _ => Option.none
theorem tyOf_int {H : Hp} {i : Int} : tyOf H (.int i) = some .int := rfl
theorem tyOf_bl {H : Hp} {i : Bool} : tyOf H (.bl i) = some .bool := rfl
theorem tyOf_non {H : Hp} : tyOf H .non = some .none := rfl
theorem tyOf_str {H : Hp} {i : Str} : tyOf H (.str i) = some .str := rfl
theorem tyX_of {K : PySem.W.Frag} {H : Hp} {x : V} {s : Ty} (h : tyOf H x = some s) : TyX K H x (.type s.nm) := by
  cases x with
  | int i => cases h; exact .base (.int i)
  | bl b => cases h; exact .base (.bl b)
  | non => cases h; exact .base .non
  | str z => cases h; exact .base (.str z)
  | byt b => cases h
  | flt b => cases h
  | ty n => cases h
  | ref a =>
    have h' : (H a).bind hoTy = some s := h
    cases e : H a with
    | none => rw [e] at h'; cases h'
    | some o =>
      rw [e] at h'
      have h2 : hoTy o = some s := h'
      cases o with
      | lst xs => cases h2; exact .base (.lst e)
      | tup xs => cases h2; exact .base (.tup e)
      | dK kvs => cases h2; exact .base (.dK e)
      | frz ob u =>
        cases u with
        | lst xs => cases h2; exact .base (.frz e)
        | _ => cases h2
      | _ => cases h2
theorem kit_is : ∀ s c : Ty, (c = .int ∨ c = .bool ∨ c = .list ∨ c = .tuple) → kitB s.nm c.nm = some (s.isA c) := by
  intro s c hc
  rcases hc with rfl | rfl | rfl | rfl <;> cases s <;> decide +kernel
def isWh : V → Bool
  | .int _ => true
  | _ => false
theorem isWh_int {i : Int} : isWh (.int i) = true := rfl
theorem isWh_bl {i : Bool} : isWh (.bl i) = false := rfl
theorem isWh_non : isWh .non = false := rfl
theorem isWh_ref {i : Addr} : isWh (.ref i) = false := rfl
def rIsA (c : Ty) : List V → Hp → VK → Prop := fun xs H Q => ∃ x s, xs = [x, .ty c.nm] ∧ tyOf H x = some s ∧ Q (.bl (s.isA c)) H
theorem call_isA {X : Cx} {c : Ty} (hc : c = .int ∨ c = .bool ∨ c = .list ∨ c = .tuple := by first | exact .inl rfl | exact .inr (.inl rfl) | exact .inr (.inr (.inl rfl)) | exact .inr (.inr (.inr rfl))) : CallR X (.builtin "isinstance") (rIsA c) := by
  intro pins s σ H xs us Q I r h
  obtain ⟨x, t, rfl, ht, q⟩ := h
  exact call_isi pins s σ H _ us Q I r ⟨x, .ty c.nm, _, _, _, rfl, .ty _, tyX_of ht, kit_ty (kit_is t c hc), q⟩

/-! ### steps -/
section
variable {K : PySem.W.Frag} {ta : TA} {te tl : TE} {g : TG} {tb t u : TS} {c : TT} {D : Ends} {σ : L2.St} {H H' : Hp}
theorem for_rng1 {j : Int} {n : Nat} (hta : ∀ R : List V → Hp → Prop, R [.int j] H' → ta σ H R) (hj : j = (n : Int)) (hn : n < 2 ^ 62) (Pv : Nat → L2.St → Hp → Prop) (h0 : Pv 0 σ H')
    (hs : ∀ (i : Nat) σ H, i < n → Pv i σ H → g (.int (i : Int)) σ H fun σ2 H2 => tb { D with nx := Pv (i + 1), ct := Pv (i + 1), bk := D.nx } σ2 H2) (hd : ∀ σ H, Pv n σ H → D.nx σ H) : tFor (iRng1 ta) g tb D σ H := by
  subst hj
  refine hta _ ⟨(n : Int), rfl, ?_, ?_, ?_⟩
  · have : (0 : Int) ≤ n := Int.natCast_nonneg n
    omega
  · omega
  · rw [Int.toNat_natCast]
    exact for_range (lo := 0) Pv h0 (fun i σ H hi p => by rw [Int.zero_add]; exact hs i σ H hi p) hd
theorem for_lst {a : Addr} {xs : List V} (htl : ∀ R : VK, R (.ref a) H' → tl σ H R) (hx : SqL K H' a xs) (Pv : Nat → L2.St → Hp → Prop) (h0 : Pv 0 σ H') (hl : ∀ i σ H, i ≤ xs.length → Pv i σ H → SqL K H a xs)
    (hs : ∀ i x σ H, xs[i]? = some x → Pv i σ H → g x σ H fun σ2 H2 => tb { D with nx := Pv (i + 1), ct := Pv (i + 1), bk := D.nx } σ2 H2) (hd : ∀ σ H, Pv xs.length σ H → D.nx σ H) : tFor (iList K tl) g tb D σ H :=
  htl _ ⟨a, rfl, ⟨xs, hx⟩, for_list Pv h0 hl hs hd⟩
theorem if_step {b : Bool} (hc : ∀ R : Bool → Hp → Prop, R b H' → c σ H R) (h1 : b = true → t D σ H') (h2 : b = false → u D σ H') : tIfS c t u D σ H := hc _ (iteB h1 h2)
theorem asg_step {v : V} {i : Nat} (he : ∀ R : VK, R v H' → te σ H R) (h : D.nx (σ.set i (some v)) H') : tAsg te (gName i) D σ H := he _ h
end
end RS
namespace RS
open PySem PySem.Spec PyProof.Rows L2
section
variable {K : PySem.W.Frag} {ta : TA} {te tl : TE} {g : TG} {tb t u : TS} {c : TT} {D : Ends} {σ : L2.St} {H H' : Hp}
theorem asg_ext {v : V} {i : Nat} (he : ∀ R : VK, (∀ H', Same H H' → R v H') → te σ H R) (h : ∀ H', Same H H' → D.nx (σ.set i (some v)) H') : tAsg te (gName i) D σ H := he _ h
theorem if_ext {b : Bool} (hc : ∀ R : Bool → Hp → Prop, (∀ H', Same H H' → R b H') → c σ H R) (h1 : b = true → ∀ H', Same H H' → t D σ H') (h2 : b = false → ∀ H', Same H H' → u D σ H') : tIfS c t u D σ H :=
  hc _ fun H' s => iteB (fun e => h1 e H' s) (fun e => h2 e H' s)
theorem same_new {p : Addr} {o : HO} (h : H p = none) : Same H (upd H p o) := fun b x e => by
  rw [upd_ne (ne_of_none e h)]
  exact e
theorem sizes {n : Nat} (h : n ≤ 100000) : n ≤ sizeLine := Nat.le_trans h (by decide)
theorem sizel {n : Nat} (h : n < 100000) : n < sizeLine := Nat.lt_of_lt_of_le h (by decide)
end
end RS
namespace RS
open PySem PySem.Spec PyProof.Rows L2
/-- an if behind which the ways meet: D is a letter in both -/
theorem if_join {c : TT} {t u : TS} {D : Ends} {σ : L2.St} {H : Hp} {b : Bool} (P : L2.St → Hp → Prop) (hc : ∀ R : Bool → Hp → Prop, (∀ H', Same H H' → R b H') → c σ H R)
    (h1 : b = true → ∀ H', Same H H' → ∀ D' : Ends, D'.rt = D.rt → D'.bk = D.bk → D'.ct = D.ct → (∀ σ' H', P σ' H' → D'.nx σ' H') → t D' σ H')
    (h2 : b = false → ∀ H', Same H H' → ∀ D' : Ends, D'.rt = D.rt → D'.bk = D.bk → D'.ct = D.ct → (∀ σ' H', P σ' H' → D'.nx σ' H') → u D' σ H')
    (rest : ∀ σ' H', P σ' H' → D.nx σ' H') : tIfS c t u D σ H :=
  hc _ fun H' s => iteB (fun e => h1 e H' s D rfl rfl rfl rest) (fun e => h2 e H' s D rfl rfl rfl rest)
end RS
namespace RS
open PySem PySem.Spec PyProof.Rows L2
section
variable {K : PySem.W.Frag} {ta : TA} {te tl : TE} {g : TG} {tb t u : TS} {c : TT} {D : Ends} {σ : L2.St} {H H' : Hp}
/-- what is known of the value and the heap behind it: P -/
theorem asg_any {i : Nat} (P : V → Hp → Prop) (he : ∀ R : VK, (∀ v H', P v H' → R v H') → te σ H R) (h : ∀ v H', P v H' → D.nx (σ.set i (some v)) H') : tAsg te (gName i) D σ H := he _ h
theorem ret_any (P : V → Hp → Prop) (he : ∀ R : VK, (∀ v H', P v H' → R v H') → te σ H R) (h : ∀ v H', P v H' → D.rt v H') : tRet te D σ H := he _ h
theorem drop_any (P : V → Hp → Prop) (he : ∀ R : VK, (∀ v H', P v H' → R v H') → te σ H R) (h : ∀ v H', P v H' → D.nx σ H') : tDrop te D σ H := he _ h
theorem if_any {b : Bool} (P : Hp → Prop) (hc : ∀ R : Bool → Hp → Prop, (∀ H', P H' → R b H') → c σ H R) (h1 : b = true → ∀ H', P H' → t D σ H') (h2 : b = false → ∀ H', P H' → u D σ H') : tIfS c t u D σ H :=
  hc _ fun H' s => iteB (fun e => h1 e H' s) (fun e => h2 e H' s)
theorem for_rng3 {a b c : Int} {n : Nat} (hta : ∀ R : List V → Hp → Prop, R [.int a, .int b, .int c] H' → ta σ H R) (hn : RgC a b c n) (Pv : Nat → L2.St → Hp → Prop) (h0 : Pv 0 σ H')
    (hs : ∀ (i : Nat) σ H, i < n → Pv i σ H → g (.int (a + (i : Int) * c)) σ H fun σ2 H2 => tb { D with nx := Pv (i + 1), ct := Pv (i + 1), bk := D.nx } σ2 H2) (hd : ∀ σ H, Pv n σ H → D.nx σ H) : tFor (iRng3 ta) g tb D σ H :=
  hta _ ⟨a, b, c, n, rfl, hn, for_rangeC Pv h0 hs hd⟩
end
theorem rgc_2 {N : Int} (h1 : 0 < N) (h2 : N ≤ 100000) : RgC 0 N 2 ((N - 1) / 2 + 1).toNat := by
  have e : Builtin.Range.rangeSize 0 N 2 = (N - 1) / 2 + 1 := by
    unfold Builtin.Range.rangeSize
    rw [if_pos (by decide), if_pos h1, Int.sub_zero]
  refine ⟨by decide, by decide, ?_, by rw [e]; omega⟩
  unfold Builtin.Range.small
  rw [e]
  simp only [Builtin.Range.rangeFitsLong, Bool.and_eq_true, Bool.or_eq_true, decide_eq_true_eq, beq_iff_eq, show ((2 : Int) > 0) by decide, if_true]
  omega
theorem rgc_4 {N : Int} (h1 : 0 < N) (h2 : N ≤ 100000) : RgC 0 N 4 ((N - 1) / 4 + 1).toNat := by
  have e : Builtin.Range.rangeSize 0 N 4 = (N - 1) / 4 + 1 := by
    unfold Builtin.Range.rangeSize
    rw [if_pos (by decide), if_pos h1, Int.sub_zero]
  refine ⟨by decide, by decide, ?_, by rw [e]; omega⟩
  unfold Builtin.Range.small
  rw [e]
  simp only [Builtin.Range.rangeFitsLong, Bool.and_eq_true, Bool.or_eq_true, decide_eq_true_eq, beq_iff_eq, show ((4 : Int) > 0) by decide, if_true]
  omega
theorem tyOf_same {H H' : Hp} {x : V} {s : Ty} (h : tyOf H x = some s) (e : Same H H') : tyOf H' x = some s := by
  cases x with
  | ref a =>
    have h' : (H a).bind hoTy = some s := h
    show (H' a).bind hoTy = some s
    cases q : H a with
    | none => rw [q] at h'; cases h'
    | some o => rw [e a o q]; rw [q] at h'; exact h'
  | _ => exact h
theorem tyOf_at {H : Hp} {a : Addr} {o : HO} {s : Ty} (h : H a = some o) (e : hoTy o = some s) : tyOf H (.ref a) = some s := by
  show (H a).bind hoTy = some s
  rw [h]; exact e
end RS
namespace RS
open PySem PySem.Spec PyProof.Rows L2
section
variable {K : PySem.W.Frag} {tl : TE} {g : TG} {tb : TS} {D : Ends} {σ : L2.St} {H H' : Hp}
/-- a for over a list that is made there: what is known of it and the heap is P -/
theorem for_any (P : Addr → List V → Hp → Prop) (htl : ∀ R : VK, (∀ a xs H', P a xs H' → R (.ref a) H') → tl σ H R)
    (hb : ∀ a xs H', P a xs H' → SqL K H' a xs ∧ ∃ Pv : Nat → L2.St → Hp → Prop, Pv 0 σ H' ∧ (∀ i σ H, i ≤ xs.length → Pv i σ H → SqL K H a xs) ∧
      (∀ i x σ H, xs[i]? = some x → Pv i σ H → g x σ H fun σ2 H2 => tb { D with nx := Pv (i + 1), ct := Pv (i + 1), bk := D.nx } σ2 H2) ∧ ∀ σ H, Pv xs.length σ H → D.nx σ H) : tFor (iList K tl) g tb D σ H :=
  htl _ fun a xs H' p => by
    obtain ⟨hx, Pv, h0, hl, hs, hd⟩ := hb a xs H' p
    exact ⟨a, rfl, ⟨xs, hx⟩, for_list Pv h0 hl hs hd⟩
end
end RS
namespace RS
open PySem PySem.Spec PyProof.Rows L2
/-- a while whose test leaves the heap -/
theorem while_step {c : TT} {tb : TS} {D : Ends} {σ : L2.St} {H : Hp} (W : Nat → L2.St → Hp → Prop) (h0 : ∃ m, W m σ H)
    (hs : ∀ m σ H, W m σ H → ∃ b : Bool, (∀ R : Bool → Hp → Prop, R b H → c σ H R) ∧
      (b = true → tb { D with nx := fun σ' H' => ∃ m', m' < m ∧ W m' σ' H', ct := fun σ' H' => ∃ m', m' < m ∧ W m' σ' H', bk := D.nx } σ H) ∧ (b = false → D.nx σ H)) : tWhile c tb D σ H := by
  refine ⟨W, h0, fun m σ H w => ?_⟩
  obtain ⟨b, hc, h1, h2⟩ := hs m σ H w
  exact hc _ (iteB (fun e => ⟨_, fun _ _ z => z, h1 e⟩) h2)
end RS
namespace RS
open PySem PySem.Spec PyProof.Rows L2
/-- for i, x in enumerate(xs): the pair is laid anew -/
theorem for_enum {K : PySem.W.Frag} {ta : TA} {g : TG} {tb : TS} {D : Ends} {σ : L2.St} {H H' : Hp} {a : Addr} {xs : List V} (hta : ∀ R : List V → Hp → Prop, R [.ref a] H' → ta σ H R) (hx : SqL K H' a xs) (Pv : Nat → L2.St → Hp → Prop) (h0 : Pv 0 σ H')
    (hl : ∀ i σ H, Pv i σ H → SqL K H a xs)
    (hs : ∀ i x σ H, xs[i]? = some x → Pv i σ H → ∀ T, H T = none → g (.ref T) σ (upd H T (.tup [.int (i : Nat), x])) fun σ2 H2 => tb { D with nx := Pv (i + 1), ct := Pv (i + 1), bk := D.nx } σ2 H2) (hd : ∀ σ H, Pv xs.length σ H → D.nx σ H) : tFor (iEnum K ta) g tb D σ H := by
  refine hta _ ⟨a, xs, rfl, hx, fun i m σ H => m = xs.length - i ∧ i ≤ xs.length ∧ Pv i σ H, ⟨xs.length, by simp, Nat.zero_le _, h0⟩, ?_⟩
  rintro i m σ H ⟨rfl, hi, p⟩
  have q := hl i σ H p
  by_cases hlt : i < xs.length
  · refine .inr ⟨⟨xs, xs[i], q, by simp [hlt]⟩, Pv (i + 1), fun σ' H' p' => ⟨xs.length - (i + 1), by omega, rfl, hlt, p'⟩, fun v H1 y => ?_⟩
    obtain ⟨T, x, rfl, hT, rfl, hx⟩ := y
    exact hs i x σ H (hx xs q) p T hT
  · have e : i = xs.length := by omega
    subst e
    exact .inl ⟨⟨xs, q, Nat.le_refl _⟩, hd σ H p⟩
end RS
namespace RS
open PySem PySem.Spec PyProof.Rows L2
/-- xs[i] = v -/
theorem set_step {te to ti : TE} {D : Ends} {σ : L2.St} {H H' : Hp} {v : V} {a : Addr} {xs : List V} {z : Int} {j : Nat} (he : ∀ R : VK, R v H' → te σ H R) (ho : ∀ R : VK, R (.ref a) H' → to σ H' R) (hi : ∀ R : VK, R (.int z) H' → ti σ H' R)
    (hx : H' a = some (.lst xs)) (hj : ixN xs.length z = some j) (h : D.nx σ (upd H' a (.lst (xs.set j v)))) : tAsg te (gSub to ti rSetL) D σ H :=
  he _ (ho _ (hi _ ⟨a, xs, z, j, rfl, rfl, hx, hj, h⟩))
theorem var_is {σ : L2.St} {i : Nat} {v : V} (h : σ[i]? = some (some v)) {R : VK} {H : Hp} (r : R v H) : tVar i σ H R := ⟨v, h, r⟩
end RS
namespace RS
open PySem PySem.Spec PyProof.Rows L2
/-- d[k] = v -/
theorem dput_step {td ty tv : TE} {D : Ends} {σ : L2.St} {H H' : Hp} {v : V} {d : Addr} {kvs : List (Key × V)} {k : Key} (hv : ∀ R : VK, R v H' → tv σ H R) (hd : ∀ R : VK, R (.ref d) H' → td σ H' R) (hk : ∀ R : VK, R (kV k) H' → ty σ H' R)
    (hx : H' d = some (.dK kvs)) (hl : kvs.length < sizeLine) (h : D.nx σ (upd H' d (.dK (putK kvs k v)))) : sDPut td ty tv D σ H :=
  hv _ (hd _ (hk _ ⟨d, _, rfl, DPut.k hx hl, h⟩))
end RS
namespace RS
open PySem PySem.Spec PyProof.Rows L2
section
variable {K : PySem.W.Frag} {ta : TA} {te tl : TE} {tt : TT} {vs : List Nat} {σ : L2.St} {H H' : Hp} {Q : VK} {k : Nat}
/-- a comprehension over range(n) that leaves the heap: P by the turn and what is made so far -/
theorem lc_rng1 {j : Int} {n : Nat} (hta : ∀ R : List V → Hp → Prop, R [.int j] H' → ta σ H R) (hj : j = (n : Int)) (hn : n ≤ 100000) (hw : ∀ x, wipe ((wipe σ vs).set k (some x)) vs = wipe σ vs) (P : Nat → List V → Prop) (h0 : P 0 [])
    (hs : ∀ (i : Nat) acc H2, i < n → Same H' H2 → P i acc → ∃ b : Bool, (∀ R : Bool → Hp → Prop, R b H2 → tt ((wipe σ vs).set k (some (.int (i : Int)))) H2 R) ∧
      (b = true → ∃ v, (∀ R : VK, R v H2 → te ((wipe σ vs).set k (some (.int (i : Int)))) H2 R) ∧ P (i + 1) (acc ++ [v])) ∧ (b = false → P (i + 1) acc))
    (hd : ∀ D H3 acc, H' D = none → Same H' H3 → H3 D = some (.lst acc) → P n acc → acc.length ≤ n → Q (.ref D) H3) : tLc (iRng1 ta) (gName k) tt te vs σ H Q := by
  subst hj
  refine hta _ ⟨(n : Int), rfl, ?_, ?_, ?_⟩
  · have : (0 : Int) ≤ n := Int.natCast_nonneg n
    omega
  · omega
  rw [Int.toNat_natCast]
  intro D hD
  refine lc_range (lo := 0) (fun i H2 => Same H' H2 ∧ ∃ acc, H2 D = some (.lst acc) ∧ P i acc ∧ acc.length ≤ i) ⟨same_new hD, [], upd_same, h0, Nat.le_refl _⟩ ?_ ?_
  · rintro i H2 hi ⟨sm, acc, ha, p, hl⟩
    rw [Int.zero_add]
    obtain ⟨b, h1, h2, h3⟩ := hs i acc H2 hi sm p
    refine ⟨hw _, h1 _ ?_⟩
    cases b with
    | true =>
      obtain ⟨v, h4, h5⟩ := h2 rfl
      rw [if_pos rfl]
      refine h4 _ ⟨acc, ha, sizel (by omega), fun b o hb => ?_, _, upd_same, h5, by rw [List.length_append]; simp; omega⟩
      rw [upd_ne (fun z => by rw [z, hD] at hb; cases hb)]; exact sm _ _ hb
    | false =>
      rw [if_neg (by decide)]
      exact ⟨sm, acc, ha, h3 rfl, by omega⟩
  · rintro H2 ⟨sm, acc, ha, p, hl⟩
    exact hd D H2 acc hD sm ha p hl
theorem lc_lst {a : Addr} {xs : List V} (htl : ∀ R : VK, R (.ref a) H' → tl σ H R) (hx : SqL K H' a xs) (hn : xs.length ≤ 90000) (hw : ∀ x, wipe ((wipe σ vs).set k (some x)) vs = wipe σ vs) (P : Nat → List V → Prop) (h0 : P 0 [])
    (hs : ∀ (i : Nat) x acc H2, xs[i]? = some x → Same H' H2 → P i acc → ∃ b : Bool, (∀ R : Bool → Hp → Prop, R b H2 → tt ((wipe σ vs).set k (some x)) H2 R) ∧
      (b = true → ∃ v, (∀ R : VK, R v H2 → te ((wipe σ vs).set k (some x)) H2 R) ∧ P (i + 1) (acc ++ [v])) ∧ (b = false → P (i + 1) acc))
    (hd : ∀ D H3 acc, H' D = none → Same H' H3 → H3 D = some (.lst acc) → P xs.length acc → acc.length ≤ xs.length → Q (.ref D) H3) : tLc (iList K tl) (gName k) tt te vs σ H Q := by
  refine htl _ ⟨a, rfl, ⟨xs, hx⟩, ?_⟩
  intro D hD
  refine lc_list (xs := xs) (fun i H2 => Same H' H2 ∧ ∃ acc, H2 D = some (.lst acc) ∧ P i acc ∧ acc.length ≤ i) ⟨same_new hD, [], upd_same, h0, Nat.le_refl _⟩ (fun i H2 _ p => p.1.seq hx) ?_ ?_
  · rintro i x H2 hi ⟨sm, acc, ha, p, hl⟩
    have hlt := (List.getElem?_eq_some_iff.mp hi).1
    obtain ⟨b, h1, h2, h3⟩ := hs i x acc H2 hi sm p
    refine ⟨hw _, h1 _ ?_⟩
    cases b with
    | true =>
      obtain ⟨v, h4, h5⟩ := h2 rfl
      rw [if_pos rfl]
      refine h4 _ ⟨acc, ha, sizel (by omega), fun b o hb => ?_, _, upd_same, h5, by rw [List.length_append]; simp; omega⟩
      rw [upd_ne (fun z => by rw [z, hD] at hb; cases hb)]; exact sm _ _ hb
    | false =>
      rw [if_neg (by decide)]
      exact ⟨sm, acc, ha, h3 rfl, by omega⟩
  · rintro H2 ⟨sm, acc, ha, p, hl⟩
    exact hd D H2 acc hD sm ha p hl
end
end RS
namespace RS
open PySem PySem.Spec PyProof.Rows L2
theorem for_tp {K : PySem.W.Frag} {tl : TE} {g : TG} {tb : TS} {D : Ends} {σ : L2.St} {H H' : Hp} {a : Addr} {xs : List V} (htl : ∀ R : VK, R (.ref a) H' → tl σ H R) (hx : SqT K H' a xs) (Pv : Nat → L2.St → Hp → Prop) (h0 : Pv 0 σ H') (hl : ∀ i σ H, i ≤ xs.length → Pv i σ H → SqT K H a xs)
    (hs : ∀ i x σ H, xs[i]? = some x → Pv i σ H → g x σ H fun σ2 H2 => tb { D with nx := Pv (i + 1), ct := Pv (i + 1), bk := D.nx } σ2 H2) (hd : ∀ σ H, Pv xs.length σ H → D.nx σ H) : tFor (iTup K tl) g tb D σ H :=
  htl _ ⟨a, rfl, ⟨xs, hx⟩, for_tup Pv h0 hl hs hd⟩
end RS
namespace RS
open PySem PySem.Spec PyProof.Rows L2
theorem seqT_of {K : PySem.W.Frag} {H H' : Hp} {a : Addr} {xs : List V} (e : Same H H') (h : SqT K H a xs) : SqT K H' a xs := by
  rcases h with (h | ⟨o, h⟩) | h
  · exact .inl (.inl (e _ _ h))
  · exact .inl (.inr ⟨o, e _ _ h⟩)
  · exact .inr h
end RS
namespace RS
open PySem PySem.Spec PyProof.Rows L2
theorem gtup2 {K : PySem.W.Frag} {i j : Nat} {p : Addr} {x y : V} {σ : L2.St} {H : Hp} {Q : L2.St → Hp → Prop} (h : H p = some (.tup [x, y])) (q : Q ((σ.set i (some x)).set j (some y)) H) : gTup K 2 (gCons (gName i) (gCons (gName j) gNil)) (.ref p) σ H Q :=
  ⟨p, _, rfl, .inl (.inl h), rfl, ⟨_, _, rfl, ⟨_, _, rfl, rfl, q⟩⟩⟩
end RS
namespace RS
open PySem PySem.Spec PyProof.Rows L2
theorem nxt_seq {a b : TS} {D0 : Ends} {σ : L2.St} {H : Hp} {r : VK} {bk ct : L2.St → Hp → Prop} (h : a { D0 with nx := b D0 } σ H) : tNext { nx := tSeq a b D0, rt := r, bk := bk, ct := ct } σ H := h
end RS
namespace RS
open PySem PySem.Spec PyProof.Rows L2
theorem nx_at {F : L2.St → Hp → Prop} {σ : L2.St} {H : Hp} {r : VK} {bk ct : L2.St → Hp → Prop} (h : F σ H) : Ends.nx { nx := F, rt := r, bk := bk, ct := ct } σ H := h
end RS
namespace RS
open PySem PySem.Spec PyProof.Rows L2
theorem ty_list {K : PySem.W.Frag} {H : Hp} {a : Addr} {xs : List V} (h : SqL K H a xs) : tyV K "list" (.ref a) H := .inl ⟨rfl, xs, h⟩
end RS
namespace RS
open PySem PySem.Spec PyProof.Rows L2
theorem asg_tup2 {K : PySem.W.Frag} {te : TE} {D : Ends} {σ : L2.St} {H : Hp} {i j : Nat} (P : V → V → Hp → Prop) (he : ∀ R : VK, (∀ t u w H', H' t = some (.tup [u, w]) → P u w H' → R (.ref t) H') → te σ H R) (h : ∀ u w H', P u w H' → D.nx ((σ.set i (some u)).set j (some w)) H') :
    tAsg te (gTup K 2 (gCons (gName i) (gCons (gName j) gNil))) D σ H := he _ fun _ _ _ H' e p => gtup2 e (h _ _ H' p)
end RS
namespace RS
open PySem PySem.Spec PyProof.Rows L2
/-- an if behind which the ways meet, its test leaving the heap -/
theorem if_joinE {c : TT} {t u : TS} {D : Ends} {σ : L2.St} {H H' : Hp} {b : Bool} (P : L2.St → Hp → Prop) (hc : ∀ R : Bool → Hp → Prop, R b H' → c σ H R)
    (h1 : b = true → ∀ D' : Ends, D'.rt = D.rt → D'.bk = D.bk → D'.ct = D.ct → (∀ σ' H', P σ' H' → D'.nx σ' H') → t D' σ H')
    (h2 : b = false → ∀ D' : Ends, D'.rt = D.rt → D'.bk = D.bk → D'.ct = D.ct → (∀ σ' H', P σ' H' → D'.nx σ' H') → u D' σ H')
    (rest : ∀ σ' H', P σ' H' → D.nx σ' H') : tIfS c t u D σ H :=
  hc _ (iteB (fun e => h1 e D rfl rfl rfl rest) (fun e => h2 e D rfl rfl rfl rest))
end RS
namespace RS
open PySem PySem.Spec PyProof.Rows L2
/-- for x, y in zip(xs, ys), lists of one length -/
theorem for_zip2 {K : PySem.W.Frag} {ta : TA} {tb : TS} {D : Ends} {σ : L2.St} {H H' : Hp} {i j : Nat} {a b : Addr} {xs ys : List V} (hta : ∀ R : List V → Hp → Prop, R [.ref a, .ref b] H' → ta σ H R) (hx : SqL K H' a xs) (hy : SqL K H' b ys) (hl : xs.length = ys.length) (Pv : Nat → L2.St → Hp → Prop) (h0 : Pv 0 σ H')
    (hq : ∀ i σ H, Pv i σ H → SqL K H a xs ∧ SqL K H b ys) (hs : ∀ k x y σ H, xs[k]? = some x → ys[k]? = some y → Pv k σ H → ∀ H2, Same H H2 → tb { D with nx := Pv (k + 1), ct := Pv (k + 1), bk := D.nx } ((σ.set i (some x)).set j (some y)) H2) (hd : ∀ σ H, Pv xs.length σ H → D.nx σ H) :
    tFor (iZip K ta) (gTup K 2 (gCons (gName i) (gCons (gName j) gNil))) tb D σ H :=
  hta _ ⟨a, b, xs, ys, rfl, hx, hy, RZ.for_zipL hl Pv h0 hq (fun k x y T σ H ex ey p hT => gtup2 upd_same (hs k x y σ H ex ey p _ (same_new hT))) hd⟩
end RS
namespace RS
open PySem PySem.Spec PyProof.Rows L2
theorem asg_lst3 {K : PySem.W.Frag} {te : TE} {D : Ends} {σ : L2.St} {H : Hp} {i j k : Nat} (P : V → V → V → Hp → Prop) (he : ∀ R : VK, (∀ t u w z H', H' t = some (.lst [u, w, z]) → P u w z H' → R (.ref t) H') → te σ H R) (h : ∀ u w z H', P u w z H' → D.nx (((σ.set i (some u)).set j (some w)).set k (some z)) H') :
    tAsg te (gLst K 3 (gCons (gName i) (gCons (gName j) (gCons (gName k) gNil)))) D σ H := he _ fun t _ _ _ H' e p => ⟨t, _, rfl, .inl (.inl e), rfl, ⟨_, _, rfl, ⟨_, _, rfl, ⟨_, _, rfl, rfl, h _ _ _ H' p⟩⟩⟩⟩
end RS
/-! ### a ring of seats as a list -/
namespace RS
open PySem PySem.Spec PyProof.Rows L2
def ov : Option Int → V
  | .none => .non
  | .some g => .int g
theorem ov_non : ov none = .non := rfl
theorem ov_some {g : Int} : ov (some g) = .int g := rfl
theorem ov_inj {a b : Option Int} (h : ov a = ov b) : a = b := by
  cases a <;> cases b <;> simp [ov] at h ⊢
  exact h
def row (n : Nat) (f : Nat → Option Int) : List V := (List.range n).map fun p => ov (f p)
theorem row_len {n : Nat} {f : Nat → Option Int} : (row n f).length = n := by unfold row; rw [List.length_map, List.length_range]
theorem row_get {n : Nat} {f : Nat → Option Int} {p : Nat} (hp : p < n) : (row n f)[p]? = some (ov (f p)) := by
  unfold row; rw [List.getElem?_map, List.getElem?_range hp]; rfl
theorem row_some {n : Nat} {f : Nat → Option Int} {p : Nat} {v : V} (h : (row n f)[p]? = some v) : p < n ∧ v = ov (f p) := by
  have hp : p < n := by
    have := (List.getElem?_eq_some_iff.mp h).1
    rw [row_len] at this; exact this
  rw [row_get hp] at h
  exact ⟨hp, (Option.some.inj h).symm⟩
theorem row_ext {n : Nat} {f f' : Nat → Option Int} (h : ∀ p, p < n → f p = f' p) : row n f = row n f' := by
  unfold row
  exact List.map_congr_left fun p hp => by rw [h p (List.mem_range.mp hp)]
theorem row_inj {n : Nat} {f f' : Nat → Option Int} (h : row n f = row n f') (p : Nat) (hp : p < n) : f p = f' p := by
  have := row_get (f := f) hp
  rw [h, row_get hp] at this
  exact (ov_inj (Option.some.inj this)).symm
theorem row_set {n : Nat} {f : Nat → Option Int} {p : Nat} {v : Option Int} : (row n f).set p (ov v) = row n (Ring.fup f p v) := by
  refine List.ext_getElem? fun q => ?_
  by_cases hq : q < n
  · rw [row_get hq, List.getElem?_set]
    by_cases w : p = q
    · subst w; rw [if_pos rfl, if_pos (by rw [row_len]; exact hq), Ring.fup_same]
    · rw [if_neg w, row_get hq, Ring.fup_ne (fun e => w e.symm)]
  · rw [List.getElem?_eq_none (by rw [List.length_set, row_len]; omega), List.getElem?_eq_none (by rw [row_len]; omega)]
theorem row_none {n : Nat} : (List.replicate n [V.non]).flatten = row n fun _ => none := by
  refine List.ext_getElem? fun q => ?_
  have e : (List.replicate n [V.non]).flatten = List.replicate n V.non := by
    induction n with
    | zero => rfl
    | succ n ih => rw [List.replicate_succ, List.flatten_cons, ih]; rfl
  rw [e]
  by_cases hq : q < n
  · rw [row_get hq, List.getElem?_replicate, if_pos hq]; rfl
  · rw [List.getElem?_eq_none (by rw [List.length_replicate]; omega), List.getElem?_eq_none (by rw [row_len]; omega)]
theorem row_at {n : Nat} {f : Nat → Option Int} {p : Nat} (hp : p < n) : atI (row n f) (p : Int) = some (ov (f p)) := at_of (j := p) rfl (row_get hp)
theorem row_ix {n : Nat} {f : Nat → Option Int} {p : Nat} (hp : p < n) : ixN (row n f).length (p : Int) = some p := by
  rw [row_len]; unfold ixN; rw [if_pos (by omega), if_pos (by omega), Int.toNat_natCast]
/-- a heap but for one list -/
def Off (a : Addr) (H H' : Hp) : Prop := ∀ b o, b ≠ a → H b = some o → H' b = some o
theorem Off.refl {a : Addr} {H : Hp} : Off a H H := fun _ _ _ h => h
theorem Off.trans {a : Addr} {H H1 H2 : Hp} (x : Off a H H1) (y : Off a H1 H2) : Off a H H2 := fun b o hb h => y b o hb (x b o hb h)
theorem Off.same {a : Addr} {H H' : Hp} (x : Same H H') : Off a H H' := fun b o _ h => x b o h
theorem Off.upd {a : Addr} {H : Hp} {o : HO} : Off a H (upd H a o) := fun b o hb h => by rw [upd_ne hb]; exact h
end RS
namespace RS
open PySem PySem.Spec PyProof.Rows L2
theorem upd_id {H : Hp} {a : Addr} {o : HO} (h : H a = some o) : upd H a o = H := by
  funext b
  by_cases e : b = a
  · subst e; rw [upd_same, h]
  · rw [upd_ne e]
theorem row_put {n : Nat} {f : Nat → Option Int} {p : Nat} {g : Int} : (row n f).set p (.int g) = row n (Ring.fup f p (some g)) := row_set (v := some g)
theorem row_open {n : Nat} {f : Nat → Option Int} {p : Nat} : (row n f).set p .non = row n (Ring.fup f p none) := row_set (v := none)
end RS
namespace RS
open PySem PySem.Spec PyProof.Rows L2
theorem in_none {n : Nat} {f : Nat → Option Int} : inV .non (row n f) = true ↔ ∃ e, e < n ∧ f e = none := by
  unfold inV row
  rw [List.any_eq_true]
  constructor
  · rintro ⟨x, hx, e⟩
    obtain ⟨p, hp, rfl⟩ := List.mem_map.mp hx
    refine ⟨p, List.mem_range.mp hp, ?_⟩
    cases h : f p with
    | none => rfl
    | some g => rw [h] at e; cases e
  · rintro ⟨p, hp, e⟩
    exact ⟨_, List.mem_map.mpr ⟨p, List.mem_range.mpr hp, rfl⟩, by rw [e]; rfl⟩
theorem row_flat {n : Nat} {f : Nat → Option Int} : (row n f).all flatV = true := by
  unfold row
  rw [List.all_eq_true]
  intro x hx
  obtain ⟨p, hp, rfl⟩ := List.mem_map.mp hx
  cases f p <;> rfl
theorem some_ints {ns : List Int} {ys : List V} (h : ∀ y ∈ ys, y ∈ ns.map V.int) : ∃ cs : List Int, ys = cs.map V.int := by
  induction ys with
  | nil => exact ⟨[], rfl⟩
  | cons y ys ih =>
    obtain ⟨cs, rfl⟩ := ih fun z hz => h z (List.mem_cons_of_mem _ hz)
    obtain ⟨c, _, rfl⟩ := List.mem_map.mp (h y List.mem_cons_self)
    exact ⟨c :: cs, rfl⟩
theorem in_some {n : Nat} {f : Nat → Option Int} {g : Int} : inV (.int g) (row n f) = true ↔ Ring.Sits n f g := by
  unfold inV row Ring.Sits
  rw [List.any_eq_true]
  constructor
  · rintro ⟨x, hx, e⟩
    obtain ⟨p, hp, rfl⟩ := List.mem_map.mp hx
    refine ⟨p, List.mem_range.mp hp, ?_⟩
    cases h : f p with
    | none => rw [h] at e; cases e
    | some y => rw [h] at e; rw [show y = g from of_decide_eq_true e]
  · rintro ⟨p, hp, e⟩
    exact ⟨_, List.mem_map.mpr ⟨p, List.mem_range.mpr hp, rfl⟩, by rw [e]; exact decide_eq_true rfl⟩
/-- where the look ends -/
theorem loc_ex {n : Nat} {f : Nat → Option Int} {g : Int} (hn : 0 < n) (he : ∃ e, e < n ∧ f e = none) : ∃ p, p < n ∧ Ring.Loc n (hm n) f g p := by
  obtain ⟨e, he, h0⟩ := he
  have hh := hm_lt hn
  have key : ∀ (m p : Nat), p < n → Ring.Car n (hm n) f g p → Ring.far n p e = m → ∃ p, p < n ∧ Ring.Loc n (hm n) f g p := by
    intro m
    induction m with
    | zero =>
      intro p hp c hm0
      have : e = p := Ring.far_zero hp hm0
      subst this
      exact ⟨e, hp, c, fun y hy => by rw [h0] at hy; cases hy⟩
    | succ m ih =>
      intro p hp c hmm
      rcases Ring.loc_or n (hm n) f g p with (h | ⟨y, h, a⟩) | ⟨y, h, a⟩
      · exact ⟨p, hp, c, fun y hy => by rw [h] at hy; cases hy⟩
      · exact ⟨p, hp, c, fun y' hy => by rw [h] at hy; cases hy; exact a⟩
      · have hpe : p ≠ e := fun z => by rw [z, h0] at h; cases h
        exact ih _ (Ring.nx_lt hp) (Ring.car_nx hh hp c h a) (by have := Ring.far_to hp he hpe; omega)
  exact key _ _ (hh g) Ring.car_home rfl
end RS
/-! ### == of lists and tuples of flat things -/
namespace RS
open PySem PySem.Spec PyProof.Rows L2
def datV : V → PyData
  | .bl b => .bool b | .int i => .int i | _ => .none
/-- none, truths, whole numbers -/
def flD : V → Bool
  | .non => true | .bl _ => true | .int _ => true | _ => false
theorem dp_flat {K : PySem.W.Frag} {H : Hp} : ∀ v : V, flD v = true → Dp K H v (datV v) := by
  intro v h
  cases v with
  | non => exact .non
  | bl b => exact .bl b
  | int i => exact .int i
  | _ => cases h
theorem dp_all {K : PySem.W.Frag} {H : Hp} : ∀ xs : List V, xs.all flD = true → DpAll K H xs (xs.map datV)
  | [], _ => .nil
  | x :: xs, h => by
    rw [List.all_cons, Bool.and_eq_true] at h
    exact .cons (dp_flat x h.1) (dp_all xs h.2)
theorem row_flD {n : Nat} {f : Nat → Option Int} : (row n f).all flD = true := by
  unfold row
  rw [List.all_eq_true]
  intro x hx
  obtain ⟨p, hp, rfl⟩ := List.mem_map.mp hx
  cases f p <;> rfl
theorem lay_all : ∀ xs : List V, PyData.canLayAll0 (xs.map datV) = true ∧ PyData.depthAll (xs.map datV) = 0
  | [] => ⟨rfl, rfl⟩
  | x :: xs => by
    obtain ⟨h1, h2⟩ := lay_all xs
    rw [List.map_cons, PyData.canLayAll0, PyData.depthAll, h1, h2]
    cases x <;> exact ⟨by simp [datV, PyData.canLay0], by simp [datV, PyData.depth]⟩
theorem shp_lst (xs : List V) : SeqAt.shaped (.list (xs.map datV)) = true := by
  obtain ⟨h1, h2⟩ := lay_all xs
  unfold SeqAt.shaped
  rw [PyData.canLay0, PyData.depth, h1, h2]; rfl
theorem shp_tup (xs : List V) : SeqAt.shaped (.tuple (xs.map datV)) = true := by
  obtain ⟨h1, h2⟩ := lay_all xs
  unfold SeqAt.shaped
  rw [PyData.canLay0, PyData.depth, h1, h2]; rfl
section
variable {K : PySem.W.Frag} {H : Hp} {a b : Addr} {xs : List V} {R : VK}
theorem eqD_lst (hx : SqL K H a xs) (hy : SqL K H b xs) (hf : xs.all flD = true) (r : R (.bl true) H) : rEqD K (.ref a) (.ref b) H R := by
  refine ⟨_, _, .lst hx (dp_all xs hf), .lst hy (dp_all xs hf), shp_lst xs, shp_lst xs, ?_⟩
  rw [SeqAt.eqv_refl _ (SeqAt.canLay_of_shaped (shp_lst xs))]; exact r
theorem neD_lst (hx : SqL K H a xs) (hy : SqL K H b xs) (hf : xs.all flD = true) (r : R (.bl false) H) : rNeD K (.ref a) (.ref b) H R := by
  refine ⟨_, _, .lst hx (dp_all xs hf), .lst hy (dp_all xs hf), shp_lst xs, shp_lst xs, ?_⟩
  rw [SeqAt.eqv_refl _ (SeqAt.canLay_of_shaped (shp_lst xs))]; exact r
theorem eqD_tup (hx : SqT K H a xs) (hy : SqT K H b xs) (hf : xs.all flD = true) (r : R (.bl true) H) : rEqD K (.ref a) (.ref b) H R := by
  refine ⟨_, _, .tup hx (dp_all xs hf), .tup hy (dp_all xs hf), shp_tup xs, shp_tup xs, ?_⟩
  rw [SeqAt.eqv_refl _ (SeqAt.canLay_of_shaped (shp_tup xs))]; exact r
theorem neD_tup (hx : SqT K H a xs) (hy : SqT K H b xs) (hf : xs.all flD = true) (r : R (.bl false) H) : rNeD K (.ref a) (.ref b) H R := by
  refine ⟨_, _, .tup hx (dp_all xs hf), .tup hy (dp_all xs hf), shp_tup xs, shp_tup xs, ?_⟩
  rw [SeqAt.eqv_refl _ (SeqAt.canLay_of_shaped (shp_tup xs))]; exact r
theorem eqD_nil {x : V} (hx : SqL K H a (x :: xs)) (hy : SqL K H b []) (hf : (x :: xs).all flD = true) (r : R (.bl false) H) : rEqD K (.ref a) (.ref b) H R := by
  refine ⟨_, _, .lst hx (dp_all _ hf), .lst hy .nil, shp_lst _, shp_lst [], ?_⟩
  rw [show PyData.eqv (.list ((x :: xs).map datV)) (.list []) = false by simp [PyData.eqv, PyData.eqvAll]]; exact r
end
end RS
/-! ### xs[lo:hi:k]: a new list of some of its items -/
namespace RS
open PySem PySem.Spec PyProof.Rows L2
theorem vals_pick {xs : List V} {its : List Value} (r : Vals xs its) : ∀ idx : List Nat, Vals (idx.filterMap (xs[·]?)) (idx.filterMap (its[·]?))
  | [] => .nil
  | i :: idx => by
    cases e : xs[i]? with
    | none =>
      have e2 : its[i]? = none := by
        rw [List.getElem?_eq_none_iff] at e ⊢
        rw [← r.length]; exact e
      rw [List.filterMap_cons_none e, List.filterMap_cons_none e2]
      exact vals_pick r idx
    | some x =>
      obtain ⟨u, e2, rx⟩ := r.get e
      rw [List.filterMap_cons_some e, List.filterMap_cons_some e2]
      exact .cons rx (vals_pick r idx)
def tStepL (K : PySem.W.Frag) (te : TE) (tl th ts : TO) : TE := fun σ H Q => te σ H fun x H1 => tl σ H1 fun _ H2 => th σ H2 fun _ H3 => ts σ H3 fun k H4 => ∃ a xs, x = .ref a ∧ SqL K H4 a xs ∧ k ≠ some 0 ∧
  ∀ p, H4 p = none → ∀ ys : List V, (∀ y ∈ ys, y ∈ xs) → ys.length ≤ xs.length → Q (.ref p) (upd H4 p (.lst ys))
section
variable {X : Cx} {e : Expr} {te : TE} {lo hi : Option Expr} {st : Expr} {tl th ts : TO} {pos p2 : Pos}
theorem pe_stepL (he : PE X e te) (hl : PO X lo tl) (hu : PO X hi th) (hk : PO X (some st) ts) : PE X (.Subscript e (.Slice lo hi (some st) p2) pos) (tStepL X.K te tl th ts) := by
  refine ⟨fun pins s σ H Q I h => ?_⟩
  refine Subscript_ (thn (he.run pins s σ H _ I h) fun v s1 ⟨x, H1, I1, r1, q1⟩ => ?_)
  refine wpAny_Slice (thn (hl.run pins s1 σ H1 _ I1 q1) fun vl s2 ⟨l, H2, I2, pl, q2⟩ => thn (hu.run pins s2 σ H2 _ I2 q2) fun vu s3 ⟨u, H3, I3, pu, q3⟩ => thn (hk.run pins s3 σ H3 _ I3 q3) fun vk s4 ⟨k, H4, I4, pk, q4⟩ => ?_)
  obtain ⟨a, xs, rfl, hx, hk0, q⟩ := q4
  cases r1
  have I5 : Inv X pins σ H4 { s4 with heap := s4.heap.push { cls := .type "slice", data := .fields #[vl, vu, vk] } } := I4.kept (t' := s4.toks) fun b ob q => Heap.get?_push_of_some _ q
  obtain ⟨its, r, ht, hz⟩ := I5.list hx
  show wpAny (model X.prog X.w) X.A (subscriptTail e (.Slice lo hi (some st) p2) (.ref a) (.ref s4.heap.objs.size)) (EP X pins σ Q) X.xe { s4 with heap := s4.heap.push { cls := .type "slice", data := .fields #[vl, vu, vk] } }
  refine tail_any (ops := [.ref a, .ref s4.heap.objs.size]) ht.isList.typeIs slot_list_getitem.lookup ?_ (by with_unfolding_all rfl)
  refine wpAny_getItem_list_slice ht.isList (Heap.IsSliceOf.new ..) pl pu pk hk0 ?_ (by rw [List.size_toArray, ← r.length]; exact hz)
  have hv := vals_pick r (sliceRange (sliceBounds l u k its.toArray.size).1 (sliceBounds l u k its.toArray.size).2.1 (sliceBounds l u k its.toArray.size).2.2)
  have hsl := slicePick_size_le its.toArray l u k
  have he : (slicePick its.toArray l u k).toList = (sliceRange (sliceBounds l u k its.toArray.size).1 (sliceBounds l u k its.toArray.size).2.1 (sliceBounds l u k its.toArray.size).2.2).filterMap (its[·]?) := by
    unfold slicePick
    simp
  rw [← he] at hv
  have hlen := hv.length
  rw [← Array.length_toList, List.size_toArray, ← r.length] at hsl
  refine ⟨.ref _, _, I5.laid (t' := s4.toks) (o := .lst _) (fun b ob q => Heap.get?_push_of_some _ q) (Nat.le_refl _) ⟨by rw [hlen]; exact Nat.le_trans hsl hz, _, 0, hv, Heap.get?_push_size _ rfl⟩, rfl, q _ (I5.hok.fresh (Nat.le_refl _)) _ (fun y hy => ?_) (by rw [hlen]; exact hsl)⟩
  obtain ⟨i, _, e⟩ := List.mem_filterMap.mp hy
  exact List.mem_of_getElem? e
end
/-! ### list.count, flat items -/
def rCount (K : PySem.W.Frag) : V → List V → Hp → VK → Prop := fun x xs H Q => ∃ (a : Addr) (ys : List V) (y : V), x = V.ref a ∧ xs = [y] ∧ SqL K H a ys ∧ flatV y = true ∧ ys.all flatV = true ∧ Q (.int ((ys.countP fun z => eqV z y : Nat) : Int)) H
theorem count_rel {y : V} : ∀ {ys : List V} {its : List Value}, Vals ys its → ys.all flatV = true → its.countP (eqU y) = ys.countP fun z => eqV z y
  | [], _, r, _ => by cases r; rfl
  | z :: ys, _, r, f => by
    cases r with
    | cons r1 r2 =>
      rw [List.all_cons, Bool.and_eq_true] at f
      rw [List.countP_cons, List.countP_cons, count_rel r2 f.2, eqU_of r1 f.1]
theorem mt_countL {X : Cx} : MtR X "list.count" (rCount X.K) := by
  intro pins s σ H x xs v us Q I rx rxs h
  obtain ⟨a, ys, y, rfl, rfl, hs, fy, fys, q⟩ := h
  cases rx
  cases rxs with
  | cons ry rt =>
    rename_i uy ut
    cases rt
    obtain ⟨its, rv, ⟨⟨cls, dd, data, sl⟩, n, ho, hc, hdn, hd⟩, hlen⟩ := I.list hs
    simp only at hc hd
    subst hc hd
    refine call_meets PySem.F.slot_list_count ⟨_, ho, rfl⟩ PySem.F.entry_list_count (PySem.F.args_list_count_2 _ _)
      (SeqAt.list_countAt a its.toArray n dd sl uy (eqU y)) ⟨ho, fun u' hu' => mem_eqAt ry fy rv fys u' (by simpa using hu'), ?_⟩
    refine ⟨.int ((ys.countP fun z => eqV z y : Nat) : Int), H, I.tok _, ⟨s.toks, ?_⟩, q⟩
    rw [← count_rel rv fys]
end RS
/-! ### xs != ys, lists of the very same things -/
namespace RS
open PySem PySem.Spec PyProof.Rows L2
def okV : V → Bool
  | .ref _ => true
  | v => flatB v
def rNeS (K : PySem.W.Frag) : R2 := fun x y H Q => ∃ a b xs, x = .ref a ∧ y = .ref b ∧ SqL K H a xs ∧ SqL K H b xs ∧ xs.all okV = true ∧ Q (.bl false) H
theorem okV_same {A : Around} {s : Shared} : ∀ {xs : List V} {us ws : List Value}, Vals xs us → Vals xs ws → xs.all okV = true → ∀ j (h1 : j < us.length) (h2 : j < ws.length), SeqAt.EqAt A s us[j] ws[j] true
  | [], _, _, r1, r2, _ => by
    intro j h1
    cases r1
    exact absurd h1 (Nat.not_lt_zero j)
  | x :: xs, _, _, r1, r2, f => by
    rw [List.all_cons, Bool.and_eq_true] at f
    cases r1 with
    | cons a1 b1 =>
      cases r2 with
      | cons a2 b2 =>
        intro j h1 h2
        cases j with
        | zero =>
          show SeqAt.EqAt A s _ _ true
          cases x with
          | ref p =>
            cases a1; cases a2
            exact SeqAt.EqAt.same _
          | _ => exact eqAt_same a1 a2 f.1
        | succ j => exact okV_same b1 b2 f.2 j (Nat.lt_of_succ_lt_succ h1) (Nat.lt_of_succ_lt_succ h2)
theorem op_neS {X : Cx} (hu : X.A.units + 64 < cLine) : OpR X (compareOp .NotEq) (rNeS X.K) := by
  intro pins s σ H x y v u Q I rx ry h
  obtain ⟨a, b, xs, rfl, rfl, ha, hb, f, q⟩ := h
  cases (show v = Value.ref a from rx)
  cases (show u = Value.ref b from ry)
  obtain ⟨us, r1, p1, _⟩ := I.list ha
  obtain ⟨ws, r2, p2, _⟩ := I.list hb
  have hsz : us.toArray.size = ws.toArray.size := by
    rw [List.size_toArray, List.size_toArray, ← r1.length, ← r2.length]
  have key := SeqAt.RcNeAt.lists (A := X.A) (e := fun _ => true) p1.isList p2.isList hsz (by omega) (fun j h1 h2 => by
    have := okV_same (A := X.A.in1) (s := s) r1 r2 f j (by simpa using h1) (by simpa using h2)
    simpa using this)
  rw [show ((List.range us.toArray.size).all fun _ => true) = true from List.all_eq_true.mpr fun _ _ => rfl] at key
  exact key _ _ _ _ ⟨.bl false, H, I, rfl, q⟩
/-! ### len(set(xs)), ints -/
def dist (ns : List Int) : List Int := PyProof.Rows.firstMet (fun i => ns.getD i 0) ns.length
theorem dist_nodup {ns : List Int} (h : ns.Nodup) : dist ns = ns := by
  unfold dist
  rw [RZ.firstMet_nodup h ns.length (Nat.le_refl _), List.take_length]
theorem firstMet_has {val : Nat → Int} : ∀ {i j : Nat}, j < i → val j ∈ PyProof.Rows.firstMet val i
  | 0, _, h => absurd h (Nat.not_lt_zero _)
  | i + 1, j, h => by
    rw [PyProof.Rows.firstMet_succ]
    unfold PyProof.Rows.step_dedup
    by_cases e : j = i
    · subst e
      split
      · rename_i hb
        obtain ⟨y, hy, ey⟩ := List.any_eq_true.mp hb
        rw [← show y = val j from eq_of_beq ey]; exact hy
      · simp
    · have := firstMet_has (val := val) (i := i) (j := j) (by omega)
      split
      · exact this
      · exact List.mem_append_left _ this
theorem dist_short {ns : List Int} (h : ¬ ns.Nodup) : (dist ns).length < ns.length := by
  have : ∃ i j, j < i ∧ i < ns.length ∧ ns.getD j 0 = ns.getD i 0 := by
    apply Classical.byContradiction
    intro no
    apply h
    refine List.pairwise_iff_getElem.mpr fun j i hj hi hji e => no ⟨i, j, hji, hi, ?_⟩
    rw [List.getD_eq_getElem?_getD, List.getElem?_eq_getElem hj, List.getD_eq_getElem?_getD, List.getElem?_eq_getElem hi]
    exact e
  obtain ⟨i, j, hji, hi, e⟩ := this
  have step : (PyProof.Rows.firstMet (fun k => ns.getD k 0) (i + 1)).length ≤ i := by
    rw [PyProof.Rows.firstMet_succ]
    unfold PyProof.Rows.step_dedup
    rw [if_pos (List.any_eq_true.mpr ⟨ns.getD j 0, firstMet_has (val := fun k => ns.getD k 0) hji, by rw [e]; exact beq_self_eq_true _⟩)]
    exact PyProof.Rows.firstMet_length_le _ _
  have grow : ∀ k, (PyProof.Rows.firstMet (fun k => ns.getD k 0) (i + 1 + k)).length ≤ i + k := by
    intro k
    induction k with
    | zero => exact step
    | succ k ih =>
      rw [show i + 1 + (k + 1) = (i + 1 + k) + 1 by omega, PyProof.Rows.firstMet_succ]
      unfold PyProof.Rows.step_dedup
      split
      · omega
      · rw [List.length_append, List.length_singleton]; omega
  have := grow (ns.length - (i + 1))
  unfold dist
  rw [show i + 1 + (ns.length - (i + 1)) = ns.length by omega] at this
  omega
def tLenSet (K : PySem.W.Frag) (ta : TE) : TE := fun σ H Q => ta σ H fun x H1 => ∃ (l : Addr) (ns : List Int), x = .ref l ∧ SqL K H1 l (ns.map V.int) ∧ ns.length ≤ 4000 ∧ Q (.int ((dist ns).length : Nat)) H1
theorem pe_lenSet {X : Cx} {a : Expr} {ta : TE} {p p2 q pos : Pos} (hm : X.mg "len" = none) (hm2 : X.mg "set" = none) (ha : PE X a ta) (hg : Gl X "len" := by rfl) (hg2 : Gl X "set" := by rfl) (hc : X.calm = true := by rfl)
    (na : starEach [a] X.env = (false, eval a X.env) :: starEach [] X.env := by rfl) : PE X (.Call (.Name "len" p) [.Call (.Name "set" p2) [a] [] q] [] pos) (tLenSet X.K ta) := by
  refine ⟨fun pins s σ H Q I h => ?_⟩
  refine Call_ (ld_blt I hg hm boot_len ?_)
  refine PyProof.Rows.callWith_builtin1 (PyProof.Rows.args_cons ?_ rfl) rfl rfl
  refine Call_ (ld_blt I hg2 hm2 boot_set ?_)
  refine PyProof.Rows.callWith_type1 (PyProof.Rows.args_cons (thn (ha.run pins s σ H _ I h) fun v s1 ⟨x, H1, I1, r1, q1⟩ => PyProof.Rows.args_nil ?_) na) na rfl
  obtain ⟨l, ns, rfl, hq, hl, q1⟩ := q1
  cases r1
  obtain ⟨its, r, pl, hz⟩ := I1.list hq
  have hlen : its.toArray.size = ns.length := by rw [List.size_toArray, ← r.length, List.length_map]
  refine call_set_list (I1.ok.hd hc) pl.isList (by simpa using RZ.intsAre_vals r) (by rw [hlen]; unfold scanBound; omega) fun h' tk hS hk => ?_
  refine PyProof.Rows.args_nil ?_
  rw [hlen] at hS
  obtain ⟨o, es, ep, t, ho, hex, hd, _, _, _, hf, hn⟩ := hS
  have I2 : Inv X pins σ H1 { s1 with heap := h', toks := tk } := I1.kept fun b o e => hk b o (Heap.lt_size e) e
  have hle := PyProof.Rows.firstMet_length_le (fun i => ns.getD i 0) ns.length
  exact call_len_set ho hex hd hf (by rw [hn] <;> omega) ⟨.int (dist ns).length, H1, I2.tok _, ⟨_, by rw [hn]; rfl⟩, q1⟩
end RS
namespace RS
open PySem PySem.Spec PyProof.Rows L2
abbrev rInsert : V → List V → Hp → VK → Prop := fun x vs H Q => ∃ (l : Addr) (xs : List V) (i : Int) (y : V), x = .ref l ∧ vs = [.int i, y] ∧ H l = some (.lst xs) ∧ xs.length < sizeLine ∧ 0 ≤ i ∧ i < 2 ^ 63 ∧
  Q .non (upd H l (.lst (xs.take i.toNat ++ [y] ++ xs.drop i.toNat)))
theorem map_erase : ∀ (r : List Int) (i : Nat), (r.map V.int).eraseIdx i = (r.eraseIdx i).map V.int
  | [], _ => rfl
  | _ :: _, 0 => rfl
  | x :: r, i + 1 => by
    show V.int x :: (r.map V.int).eraseIdx i = _
    rw [map_erase r i]; rfl
theorem erase_perm : ∀ (r : List Int) (i : Nat) (h : i < r.length), (r[i] :: r.eraseIdx i).Perm r
  | [], _, h => absurd h (Nat.not_lt_zero _)
  | _ :: _, 0, _ => List.Perm.refl _
  | x :: r, i + 1, h => (List.Perm.swap x _ _).trans ((erase_perm r i (Nat.lt_of_succ_lt_succ h)).cons x)
end RS
/-! ### sorted(d.values()), ints; for k, v in d.items() -/
namespace RS
open PySem PySem.Spec PyProof.Rows L2
abbrev rSortedDI : List V → Hp → VK → Prop := fun xs H Q => ∃ (a : Addr) (kvs : List (Key × V)) (ks : List Int), xs = [.ref a] ∧ Rd H a (.dK kvs) ∧ kvs.map (·.1) = ks.map Sum.inl ∧ ks.length < 64 ∧
  ∀ (ys : List Int) (p : Addr), ys.Perm ks → ys.Pairwise (· ≤ ·) → H p = none → Q (.ref p) (upd H p (.lst (ys.map V.int)))
def tSortedVals (td : TE) : TE := fun σ H Q => td σ H fun x H1 => ∃ a kvs is, x = V.ref a ∧ H1 a = some (.dK kvs) ∧ kvs.map (·.2) = is.map V.int ∧ is.length < 64 ∧ ∀ (ys : List Int) (p : Addr), ys.Perm is → ys.Pairwise (· ≤ ·) → H1 p = none → Q (.ref p) (upd H1 p (.lst (ys.map V.int)))
section
variable {X : Cx} {o : Expr} {p pos apos mpos : Pos} {td : TE}
theorem pe_sortedVals (hm : X.mg "sorted" = none) (hd : PE X o td) (hc : X.calm = true := by rfl) (hg : Gl X "sorted" := by rfl) (hbase : attributeBase o "values" X.env (eval o X.env) = eval o X.env := by rfl) (hline : (apos.endLine == mpos.line) = true := by rfl)
    (hse : starEach [Expr.Call (.Attribute o "values" apos) [] [] mpos] X.env = [(false, eval (Expr.Call (.Attribute o "values" apos) [] [] mpos) X.env)] := by rfl) :
    PE X (.Call (.Name "sorted" p) [.Call (.Attribute o "values" apos) [] [] mpos] [] pos) (tSortedVals td) := by
  refine ⟨fun pins s σ H Q I h => ?_⟩
  refine wpAny_Call_Name_kw (ld_blt I hg hm (u := .builtin "sorted") (by first | rfl | decide +kernel) ?_ (by first | decide +kernel | decide) (by first | decide +kernel | decide))
  rw [hse]
  refine PySem.callWith_builtin1 (wpAny_Call_method0_late hbase hline (thn (hd.run pins s σ H _ I h) fun v s1 ⟨x, H1, I1, r1, a, kvs, is, ex, ha, hv, h64, q⟩ => ?_))
  subst ex
  obtain rfl : v = Value.ref a := r1
  obtain ⟨_, hsys, vs, rel, dof⟩ := dk_of I1.hok ha
  obtain ⟨ep, dat⟩ := dof.dictAt
  have dat' := dat
  obtain ⟨ob, es, ho, ex, hdat, hko, hpr, hnd⟩ := dat'
  refine ⟨"dict", "dict.values", F.plainAttrs_dict, F.slot_dict_values, F.type_dict_values, ⟨ob, ho, ex.1⟩, fun b e => ?_, Calls.callWith_builtin rfl (PySem.evalArgs_none ?_)⟩
  · cases e
    exact ⟨ob, ho, ex.2.1⟩
  refine call_meetsIn F.slot_dict_values ⟨ob, ho, ex.1⟩ F.entry_dict_values (F.args_dict_values_1 _) (meets_dict_values (mixKind X.prog X.w) a hsys) ⟨⟨vs, dof⟩, ?_⟩
  have k1 : ∀ b u, s1.heap.get? b = some u → (s1.heap.push { cls := .type "dict_values", data := .fields #[.ref a] }).get? b = some u := fun b u e => Heap.get?_push_of_some _ e
  have dat1 : (s1.heap.push { cls := .type "dict_values", data := .fields #[.ref a] }).DictAt (mixKind X.prog X.w) a vs ep := dat.keep k1
  have hlv : vs.length = is.length := by
    have e1 := congrArg List.length hv
    rw [List.length_map, List.length_map] at e1
    rw [← e1]
    exact (KV.length rel).symm
  have h16 : vs.length ≤ sizeLine := by rw [hlv, sizeLine_eq]; omega
  refine Calls.call_function_entry PyProof.Rows.kind_sorted PyProof.Rows.plain_sorted PyProof.Rows.entry_sorted (PyProof.Rows.args_sorted1 _) ?_
  unfold Builtin.«sorted»
  refine wpAny_bind (m := checkCount "sorted" 1 1 _) (wpAny_pure ?_)
  refine wpAny_bind (PySem.W.kdu_collect (A := X.A.in1) (PySem.W.kdl_values (knd := mixKind X.prog X.w) (r := s1.heap.objs.size) (d := a) (kvs := vs) (ep := ep)) (I.ok.hd hc) ⟨⟨_, Heap.get?_push_size _ rfl, rfl, rfl⟩, dat1⟩ h16 fun h' tk acc hk hacc => ?_)
  have hal : acc.toList.length = is.length := by rw [Array.length_toList, hacc.1, hlv]
  have hS : IntsAre acc.toList is := ints_each hal fun j v e => by
    obtain ⟨k, e1⟩ := hacc.2 j v (by rw [← Array.getElem?_toList]; exact e)
    obtain ⟨x, h1, h2⟩ := KV.at' rel e1
    have e2 : (kvs.map (·.2))[j]? = some x := by rw [List.getElem?_map, h1] <;> rfl
    rw [hv, List.getElem?_map] at e2
    obtain ⟨y, hy, e3⟩ := Option.map_eq_some_iff.mp e2
    subst e3
    obtain ⟨t, e4⟩ := h2
    exact ⟨y, t, hy, e4⟩
  have I2 : Inv X pins σ H1 { s1 with heap := h', toks := tk } := I1.kept fun b u e => hk b u (k1 b u e)
  refine wpAny_bind (wpAny_newList ?_ (by rw [hal, sizeLine_eq]; omega))
  have hoL : (h'.push (seqObj "list" acc.toList.toArray 0)).get? h'.objs.size = some (seqObj "list" acc.toList.toArray 0) := Heap.get?_push_size _ rfl
  show wpAny _ _ _ _ _ { s1 with heap := h'.push (seqObj "list" acc.toList.toArray 0), toks := tk }
  refine wpAny_bind (wpAny_holding (wpAny_call_entry PyProof.Rows.slot_list_sort ⟨_, hoL, rfl⟩ PyProof.Rows.entry_list_sort
    (PyProof.Rows.list_sort_tree (s := { s1 with heap := h'.push (seqObj "list" acc.toList.toArray 0), toks := tk }) hoL hS (by rw [hal]; exact h64) fun out ys g1 g2 g3 => ⟨_, rfl, ?_⟩) (PyProof.Rows.args_list_sort _)))
  obtain ⟨e', he'⟩ := PyProof.Rows.sortedHeap_at (vs := acc.toList) (out := out) hoL
  have hlen : (ys.map V.int).length ≤ sizeLine := by
    rw [List.length_map, g2.length_eq]
    exact Nat.le_trans (Nat.le_of_lt h64) (by decide)
  refine wpAny_pure ⟨_, rfl, .ref h'.objs.size, upd H1 h'.objs.size (.lst (ys.map V.int)), I2.laid (t' := tk) (fun b u e => ?_) (Nat.le_refl _)
    (show ObjOk X.prog X.w _ _ _ (.lst (ys.map V.int)) from ⟨hlen, out.toList, e', vals_of_ints g1, by rw [Array.toArray_toList]; exact he'⟩), rfl, q ys _ g2 g3 (I2.hok.fresh (Nat.le_refl _))⟩
  have hb : b < h'.objs.size := Heap.lt_size e
  rw [PyProof.Rows.sortedHeap_old (Nat.ne_of_lt hb) (by rw [size_push']; exact Nat.lt_succ_of_lt hb)]
  exact Heap.get?_push_of_some _ e
end
/-- for k, v in d.items(), a body that leaves what stands -/
theorem for_items {td : TE} {tb : TS} {D : Ends} {σ : L2.St} {H : Hp} {d : Addr} {kvs : List (Key × V)} {K : PySem.W.Frag} {i j : Nat} (hd : H d = some (.dK kvs)) (htd : ∀ (H' : Hp) (R : VK), R (.ref d) H' → td σ H' R) (Pv : Nat → L2.St → Prop) (h0 : Pv 0 σ)
    (hs : ∀ k key v σ' H', kvs[k]? = some (key, v) → Pv k σ' → ∀ D' : Ends, (∀ σ2 H2, Same H' H2 → Pv (k + 1) σ2 → D'.nx σ2 H2) → tb D' ((σ'.set i (some (kV key))).set j (some v)) H')
    (hend : ∀ σ' H', Pv kvs.length σ' → Same H H' → D.nx σ' H') : tLock (tFor (iItems td) (gTup K 2 (gCons (gName i) (gCons (gName j) gNil))) tb) D σ H := by
  refine ⟨d, _, hd, trivial, fun od => ?_⟩
  have back : ∀ H', Same (upd H d (.frz od (.dK kvs))) H' → H' d = some (.frz od (.dK kvs)) ∧ Same H (upd H' d (.dK kvs)) := fun H' sm => by
    refine ⟨sm _ _ upd_same, fun b o hb => ?_⟩
    by_cases e : b = d
    · subst e; rw [hd] at hb; cases hb; exact upd_same
    · rw [upd_ne e]; exact sm _ _ (by rw [upd_ne e]; exact hb)
  refine htd _ _ ⟨d, od, kvs, rfl, upd_same, fun i' m σ' H' => m = kvs.length - i' ∧ i' ≤ kvs.length ∧ Pv i' σ' ∧ Same (upd H d (.frz od (.dK kvs))) H', ⟨kvs.length, by simp, Nat.zero_le _, h0, Same.refl _⟩, ?_⟩
  rintro i' m σ' H' ⟨rfl, hi, pv, sm⟩
  by_cases hlt : i' < kvs.length
  · refine .inr ⟨⟨(back H' sm).1, hlt⟩, fun σ2 H2 => Pv (i' + 1) σ2 ∧ Same (upd H d (.frz od (.dK kvs))) H2, fun σ2 H2 p' => ⟨kvs.length - (i' + 1), by omega, rfl, hlt, p'.1, p'.2⟩, fun v H1 y => ?_⟩
    obtain ⟨T, k, x, hk, rfl, hT, rfl⟩ := y
    exact gtup2 upd_same (hs i' k x σ' _ hk pv _ fun σ2 H2 s2 p2 => ⟨p2, sm.trans ((same_new hT).trans s2)⟩)
  · have e : i' = kvs.length := by omega
    subst e
    obtain ⟨b1, b2⟩ := back H' sm
    exact .inl ⟨⟨b1, Nat.le_refl _⟩, b1, hend σ' _ pv b2⟩
end RS
/-! ### the program's refusals: five classes over RingError -/
namespace RS
open PySem PySem.Spec PyProof.Rows L2
inductive Ek where
  | noGuest | noSize | twice | away | full
  deriving DecidableEq
def Cs.of (C : Cs) : Ek → Addr
  | .noGuest => C.cNoGuest | .noSize => C.cNoSize | .twice => C.cTwice | .away => C.cAway | .full => C.cFull
abbrev bmV : List Value := [.type "ValueError", .type "Exception", .type "BaseException", .type "object"]
/-- what the kit asks of a class of refusals -/
structure ExF (K : PySem.W.Frag) (c : Addr) : Prop where
  q : PySem.W.excIn K c bmV "ValueError.__new__" = true
  k : PySem.W.keepIn K (.ref c) = true
  b : PySem.W.subIn K (.ref c) (.type "BaseException") = some true
  t : PySem.W.typeIn K (.ref c) = some (.type "type")
  e : ExcC K c
structure Facts (K : PySem.W.Frag) (C : Cs) : Prop where
  ex : ∀ x, ExF K (C.of x)
  exm : ∀ x, PySem.W.exmOne K (.ref (C.of x)) (.ref C.cRingError) = some true
  kit : ∀ x y, PySem.W.kitOne K (.ref (C.of x)) (.ref (C.of y)) = some (decide (x = y))
  val : ∀ x, PySem.W.kitOne K (.ref (C.of x)) (.type "ValueError") = some true
structure Top (K : PySem.W.Frag) (mg : Str → Option Value) (C : Cs) : Prop where
  f : Facts K C
  gRingError : mg "RingError" = some (.ref C.cRingError)
  gNoGuest : mg "NoGuest" = some (.ref C.cNoGuest)
  gNoSize : mg "NoSize" = some (.ref C.cNoSize)
  gTwice : mg "Twice" = some (.ref C.cTwice)
  gAway : mg "Away" = some (.ref C.cAway)
  gFull : mg "Full" = some (.ref C.cFull)
/-- isinstance(e, one of the five), e the refusal that the suite holds -/
def tIsE (C : Cs) (cls : Value) (d : Option Addr) (a : Addr) (te : TE) (y : Ek) : TE := fun σ H Q => te σ H fun v H1 => v = .ref a ∧ ∃ x : Ek, cls = .ref (C.of x) ∧ d = none ∧ Q (.bl (decide (x = y))) H1
def tIsVal (C : Cs) (cls : Value) (d : Option Addr) (a : Addr) (te : TE) : TE := fun σ H Q => te σ H fun v H1 => v = .ref a ∧ ∃ x : Ek, cls = .ref (C.of x) ∧ d = none ∧ Q (.bl true) H1
def rIsX (C : Cs) (cls : Value) (d : Option Addr) (a : Addr) : List V → Hp → VK → Prop := fun xs H Q => ∃ x : Ek, cls = .ref (C.of x) ∧ d = none ∧
  ((∃ y : Ek, xs = [.ref a, .ref (C.of y)] ∧ Q (.bl (decide (x = y))) H) ∨ (xs = [.ref a, .ty "ValueError"] ∧ Q (.bl true) H))
theorem call_isX {X : Cx} {C : Cs} {a : Addr} {cls : Value} {d : Option Addr} {oe : Obj} {pn : List (Addr × Obj)} (F : Facts X.K C) (hz : Zc cls d oe) (hf : ∃ vs, oe.data = .fields vs) : CallR (X.suite a ((a, oe) :: pn)) (.builtin "isinstance") (rIsX C cls d a) := by
  intro pins s σ H xs us Q I r h
  obtain ⟨x, rfl, rfl, h⟩ := h
  rcases h with ⟨y, rfl, q⟩ | ⟨rfl, q⟩
  · exact call_isE (F.ex x).e hz hf pins s σ H _ us Q I r ⟨.ref (C.of y), .ref (C.of y), _, rfl, fun u h => h, F.kit x y, q⟩
  · exact call_isE (F.ex x).e hz hf pins s σ H _ us Q I r ⟨.ty "ValueError", .type "ValueError", _, rfl, fun u h => h, F.val x, q⟩
/-- try: .. except RingError as e: .. -/
def tTryAs (K : PySem.W.Frag) (C : Cs) (i : Nat) (tb : WX → TS) (ts : Addr → Value → Option Addr → TS) (W : WX) : TS := fun D σ H => tb (wAs K (.ref C.cRingError) i ts W D) D σ H
abbrev W0 : WX := fun _ _ _ _ => False
section
variable {X : Cx} {CX : CXT} {k : Nat} {ps : List Str} {sp : Sp} {E : L2.St → XK} {x : Str} {p pos : Pos} {e : Expr} {es : List Expr} {t : TA}
theorem pe_fnS (c : Cal X.prog X.w X.K X.mg X.base CX k x ps sp) (hr : Room k X.A) (hx : ∀ σ, PassesAt CX X σ (E σ)) (ha : PA X (e :: es) t) (hg : Gl X x := by rfl) (hdb : (x == ("__debug__" : Str)) = false := by decide)
    (he : starEach (e :: es) X.env = (false, eval e X.env) :: starEach es X.env := by rfl) (hpl : (backTo pos (starEach es X.env)).any (·.1) = false := by rfl) :
    PE X (.Call (.Name x p) (e :: es) [] pos) (tCallS sp E t) := by
  obtain ⟨f, fd, G, hm, hk, hb⟩ := c.ex
  exact pe_callS G hr hg hm hk hb hx ha hdb he hpl
end
end RS
namespace RS
open PySem PySem.Spec PyProof.Rows L2
/-- what is looked up of a class of refusals, at a; r is RingError -/
structure ClsF (K : PySem.W.Frag) (a r : Addr) : Prop where
  q : PySem.W.excIn K a bmV "ValueError.__new__" = true
  k : PySem.W.keepIn K (.ref a) = true
  b : PySem.W.subIn K (.ref a) (.type "BaseException") = some true
  t : PySem.W.typeIn K (.ref a) = some (.type "type")
  g : PySem.W.findIn K (.ref a) "__getattribute__" = some (some (.builtin "BaseException.__getattribute__"))
  n : PySem.W.findIn K (.ref a) "__getattr__" = some none
  d : PySem.W.hasDictIn K a = true
  c : PySem.W.findIn K (.ref a) "__class__" = some (some (.builtin "object.__class__"))
  m : PySem.W.mroIn K a (.type "object") = some true
  v : PySem.W.subIn K (.ref a) (.type "ValueError") = some true
  r : PySem.W.subIn K (.ref a) (.ref r) = some true
  s : PySem.W.subIn K (.ref a) (.ref a) = some true
theorem kit_val {K : PySem.W.Frag} {a r : Addr} (F : ClsF K a r) : PySem.W.kitOne K (.ref a) (.type "ValueError") = some true := by
  unfold PySem.W.kitOne
  rw [if_neg (by simp)]
  show (if PySem.W.kitMeta "ValueError" = true then _ else none) = _
  rw [if_pos (by decide)]
  exact F.v
theorem kit_ref {K : PySem.W.Frag} {a b r : Addr} (F : ClsF K a r) (G : ClsF K b r) {v : Bool} (h : PySem.W.subIn K (.ref a) (.ref b) = some v) : PySem.W.kitOne K (.ref a) (.ref b) = some v := by
  unfold PySem.W.kitOne
  by_cases e : a = b
  · subst e
    rw [F.s] at h; cases h
    rw [if_pos (by simp)]
  · rw [if_neg (by simpa using e)]
    show (if ((PySem.W.clsIn K b).isSome && PySem.W.typeIn K (.ref b) == some (.type "type")) = true then PySem.W.subIn K (.ref a) (.ref b) else none) = some v
    obtain ⟨cd, hc, _⟩ := PySem.W.any_some G.d
    rw [if_pos (by rw [hc, G.t]; rfl)]
    exact h
theorem top_mk {K : PySem.W.Frag} {h : Heap} {mg : Str → Option Value} {aR a1 a2 a3 a4 a5 aH : Addr} (X : K.In h) (G : h.Ns mainGlobals mg)
    (nR : PySem.W.nsIn K mainGlobals "RingError" = some (some (.ref aR))) (n1 : PySem.W.nsIn K mainGlobals "NoGuest" = some (some (.ref a1))) (n2 : PySem.W.nsIn K mainGlobals "NoSize" = some (some (.ref a2)))
    (n3 : PySem.W.nsIn K mainGlobals "Twice" = some (some (.ref a3))) (n4 : PySem.W.nsIn K mainGlobals "Away" = some (some (.ref a4))) (n5 : PySem.W.nsIn K mainGlobals "Full" = some (some (.ref a5)))
    (F1 : ClsF K a1 aR) (F2 : ClsF K a2 aR) (F3 : ClsF K a3 aR) (F4 : ClsF K a4 aR) (F5 : ClsF K a5 aR)
    (Rb : PySem.W.subIn K (.ref aR) (.type "BaseException") = some true) (Rd : PySem.W.hasDictIn K aR = true) (Rt : PySem.W.typeIn K (.ref aR) = some (.type "type"))
    (hn : PySem.W.specialIn K (.builtin "object.__class__") "__get__" = some (some (.builtin "getset_descriptor.__get__"))) (ht : PySem.W.takesIn K (.builtin "object.__class__") = some true)
    (s12 : PySem.W.subIn K (.ref a1) (.ref a2) = some false) (s13 : PySem.W.subIn K (.ref a1) (.ref a3) = some false) (s14 : PySem.W.subIn K (.ref a1) (.ref a4) = some false) (s15 : PySem.W.subIn K (.ref a1) (.ref a5) = some false)
    (s21 : PySem.W.subIn K (.ref a2) (.ref a1) = some false) (s23 : PySem.W.subIn K (.ref a2) (.ref a3) = some false) (s24 : PySem.W.subIn K (.ref a2) (.ref a4) = some false) (s25 : PySem.W.subIn K (.ref a2) (.ref a5) = some false)
    (s31 : PySem.W.subIn K (.ref a3) (.ref a1) = some false) (s32 : PySem.W.subIn K (.ref a3) (.ref a2) = some false) (s34 : PySem.W.subIn K (.ref a3) (.ref a4) = some false) (s35 : PySem.W.subIn K (.ref a3) (.ref a5) = some false)
    (s41 : PySem.W.subIn K (.ref a4) (.ref a1) = some false) (s42 : PySem.W.subIn K (.ref a4) (.ref a2) = some false) (s43 : PySem.W.subIn K (.ref a4) (.ref a3) = some false) (s45 : PySem.W.subIn K (.ref a4) (.ref a5) = some false)
    (s51 : PySem.W.subIn K (.ref a5) (.ref a1) = some false) (s52 : PySem.W.subIn K (.ref a5) (.ref a2) = some false) (s53 : PySem.W.subIn K (.ref a5) (.ref a3) = some false) (s54 : PySem.W.subIn K (.ref a5) (.ref a4) = some false) :
    Top K mg ⟨aR, a1, a2, a3, a4, a5, aH⟩ := by
  have ex : ∀ a, ClsF K a aR → ExF K a := fun a F => ⟨F.q, F.k, F.b, F.t, ⟨F.g, F.n, F.b, F.d, F.c, hn, ht, F.m⟩⟩
  have em : ∀ a, ClsF K a aR → PySem.W.exmOne K (.ref a) (.ref aR) = some true := fun a F => PySem.W.exm_ref Rb Rd Rt F.r
  refine ⟨⟨?_, ?_, ?_, ?_⟩, PySem.W.mg_of X G nR, PySem.W.mg_of X G n1, PySem.W.mg_of X G n2, PySem.W.mg_of X G n3, PySem.W.mg_of X G n4, PySem.W.mg_of X G n5⟩
  · intro x; cases x
    · exact ex _ F1
    · exact ex _ F2
    · exact ex _ F3
    · exact ex _ F4
    · exact ex _ F5
  · intro x; cases x
    · exact em _ F1
    · exact em _ F2
    · exact em _ F3
    · exact em _ F4
    · exact em _ F5
  · intro x y
    cases x <;> cases y
    · exact kit_ref F1 F1 F1.s
    · exact kit_ref F1 F2 s12
    · exact kit_ref F1 F3 s13
    · exact kit_ref F1 F4 s14
    · exact kit_ref F1 F5 s15
    · exact kit_ref F2 F1 s21
    · exact kit_ref F2 F2 F2.s
    · exact kit_ref F2 F3 s23
    · exact kit_ref F2 F4 s24
    · exact kit_ref F2 F5 s25
    · exact kit_ref F3 F1 s31
    · exact kit_ref F3 F2 s32
    · exact kit_ref F3 F3 F3.s
    · exact kit_ref F3 F4 s34
    · exact kit_ref F3 F5 s35
    · exact kit_ref F4 F1 s41
    · exact kit_ref F4 F2 s42
    · exact kit_ref F4 F3 s43
    · exact kit_ref F4 F4 F4.s
    · exact kit_ref F4 F5 s45
    · exact kit_ref F5 F1 s51
    · exact kit_ref F5 F2 s52
    · exact kit_ref F5 F3 s53
    · exact kit_ref F5 F4 s54
    · exact kit_ref F5 F5 F5.s
  · intro x; cases x
    · exact kit_val F1
    · exact kit_val F2
    · exact kit_val F3
    · exact kit_val F4
    · exact kit_val F5
end RS
/-! ### who is a guest; a seating and the list of who sits -/
namespace RS
open PySem PySem.Spec PyProof.Rows L2
def isG : V → Bool
  | .int i => decide (0 ≤ i) && decide (i < 1000000000000000000000000000000000000000000000000000000000000)
  | _ => false
theorem isG_yes {i : Int} (h0 : 0 ≤ i) (h1 : i < 1000000000000000000000000000000000000000000000000000000000000) : isG (.int i) = true := by
  show (decide _ && decide _) = true
  rw [decide_eq_true h0, decide_eq_true h1]; rfl
theorem isG_neg {i : Int} (h0 : i < 0) : isG (.int i) = false := by
  show (decide _ && decide _) = false
  rw [decide_eq_false (p := 0 ≤ i) (by omega)]; rfl
theorem isG_big {i : Int} (h0 : 1000000000000000000000000000000000000000000000000000000000000 ≤ i) : isG (.int i) = false := by
  show (decide _ && decide _) = false
  rw [decide_eq_false (p := i < 1000000000000000000000000000000000000000000000000000000000000) (by omega), Bool.and_false]
theorem isG_is {i : Int} (h : isG (.int i) = true) : 0 ≤ i ∧ i < 1000000000000000000000000000000000000000000000000000000000000 := by
  have h' : (decide (0 ≤ i) && decide (i < 1000000000000000000000000000000000000000000000000000000000000)) = true := h
  rw [Bool.and_eq_true, decide_eq_true_eq, decide_eq_true_eq] at h'
  exact h'
theorem isG_int {x : V} (h : isG x = true) : ∃ g, x = .int g := by
  cases x with
  | int g => exact ⟨g, rfl⟩
  | _ => cases h
theorem cut_ints {ns : List Int} {lo hi : Option Int} : ∃ cs : List Int, cutV (ns.map V.int) lo hi = cs.map V.int ∧ cs.length ≤ ns.length := by
  unfold cutV
  refine ⟨(ns.drop _).take _, by rw [List.map_take, List.map_drop], ?_⟩
  rw [List.length_take, List.length_drop]; omega
/-- a seating and the list of who sits -/
structure Seat (n : Nat) (f : Nat → Option Int) (gs : List Int) : Prop where
  P : Ring.Path n (hm n) f
  nd : gs.Nodup
  st : ∀ x, Ring.Sits n f x ↔ x ∈ gs
  lt : gs.length + 1 ≤ n
  g : ∀ x ∈ gs, isG (.int x) = true
theorem Seat.em {n : Nat} {f : Nat → Option Int} {gs : List Int} (S : Seat n f gs) (hn : 0 < n) : Ring.em n f + gs.length = n := Ring.em_of (hm_lt hn) S.P S.nd S.st
theorem Seat.e {n : Nat} {f : Nat → Option Int} {gs : List Int} (S : Seat n f gs) (hn : 0 < n) : ∃ e, e < n ∧ f e = none := Ring.em_pos.mp (by have := S.em hn; have := S.lt; omega)
theorem seat_none {n : Nat} (hn : 1 ≤ n) : Seat n (fun _ => none) [] := ⟨Ring.path_none, List.nodup_nil, fun x => ⟨fun h => absurd h Ring.sits_none, fun h => nomatch h⟩, hn, fun x h => nomatch h⟩
theorem Seat.add {n : Nat} {f f' : Nat → Option Int} {gs : List Int} {g : Int} (S : Seat n f gs) (h : g ∉ gs) (hG : isG (.int g) = true) (hl : gs.length + 2 ≤ n) (P : Ring.Path n (hm n) f') (st : ∀ x, Ring.Sits n f' x ↔ Ring.Sits n f x ∨ x = g) : Seat n f' (gs ++ [g]) := by
  refine ⟨P, List.nodup_append.mpr ⟨S.nd, by simp, fun x hx y hy => by simp at hy; subst hy; intro z; exact h (z ▸ hx)⟩, fun x => ?_, by rw [List.length_append]; simp; omega, fun x hx => ?_⟩
  · rw [st x, S.st x, List.mem_append, List.mem_singleton]
  · rcases List.mem_append.mp hx with h | h
    · exact S.g x h
    · rw [List.mem_singleton.mp h]; exact hG
theorem Seat.perm {n : Nat} {f : Nat → Option Int} {gs : List Int} (S : Seat n f gs) (hn : 0 < n) : (Ring.gl n f).Perm gs := Ring.gl_perm (hm_lt hn) S.P S.nd S.st
theorem Seat.del {n : Nat} {f f' : Nat → Option Int} {gs hs : List Int} {g : Int} (S : Seat n f gs) (P : Ring.Path n (hm n) f') (st : ∀ x, Ring.Sits n f' x ↔ Ring.Sits n f x ∧ x ≠ g) (nd : hs.Nodup) (e : ∀ x, x ∈ hs ↔ x ∈ gs ∧ x ≠ g) : Seat n f' hs := by
  have hl : hs.length ≤ gs.length := List.Nodup.length_le_of_subset nd fun x hx => ((e x).mp hx).1
  refine ⟨P, nd, fun x => ?_, by have := S.lt; omega, fun x hx => S.g x ((e x).mp hx).1⟩
  rw [st x, S.st x, e x]
/-- of the same guests just one seating -/
theorem Seat.one {n : Nat} {f f' : Nat → Option Int} {gs hs : List Int} (hn : 0 < n) (S : Seat n f gs) (T : Seat n f' hs) (e : ∀ x, x ∈ gs ↔ x ∈ hs) : row n f = row n f' :=
  row_ext (Ring.alike (hm_lt hn) S.P T.P (fun g => by rw [T.st, S.st, e]) (T.e hn) (S.e hn))
theorem ints_flat {gs : List Int} : (gs.map V.int).all flatV = true := by
  rw [List.all_map, List.all_eq_true]; intro x _; rfl
theorem ints_flD {gs : List Int} : (gs.map V.int).all flD = true := by
  rw [List.all_map, List.all_eq_true]; intro x _; rfl
theorem in_ints {gs : List Int} {g : Int} : inV (.int g) (gs.map V.int) = decide (g ∈ gs) := by
  unfold inV
  rw [List.any_map, Bool.eq_iff_iff, List.any_eq_true, decide_eq_true_eq]
  constructor
  · rintro ⟨x, hx, e⟩
    rw [← show x = g from of_decide_eq_true e]; exact hx
  · intro h; exact ⟨g, h, decide_eq_true rfl⟩
theorem sorted_one {a b c d : List Int} (h1 : a.Perm c) (h2 : b.Perm d) (h3 : a.Pairwise (· ≤ ·)) (h4 : b.Pairwise (· ≤ ·)) (h : c.Perm d) : a = b :=
  List.Perm.eq_of_pairwise (fun _ _ _ _ h1 h2 => Int.le_antisymm h1 h2) h3 h4 (h1.trans (h.trans h2.symm))
theorem gl_next {i : Nat} {f : Nat → Option Int} : Ring.gl (i + 1) f = Ring.gl i f ++ (match f i with | none => [] | some g => [g]) := by
  unfold Ring.gl
  rw [List.range_succ, List.filterMap_append]
  cases e : f i <;> simp [e]
theorem at_before {n : Nat} {f : Nat → Option Int} {k : Nat} (hk : k < n) : atI (row n f) ((k : Int) - 1) = some (ov (f (Ring.pv n k))) := by
  unfold atI Ring.pv
  rw [row_len]
  split
  · rename_i e
    subst e
    rw [show ixN n (((0 : Nat) : Int) - 1) = some (n - 1) by unfold ixN; rw [if_neg (by omega), if_pos (by omega)]; congr 1; omega]
    exact row_get (by omega)
  · rw [show ixN n ((k : Int) - 1) = some (k - 1) by unfold ixN; rw [if_pos (by omega), if_pos (by omega)]; congr 1; omega]
    exact row_get (by omega)
theorem cut_take {gs : List Int} {k : Nat} : cutV (gs.map V.int) none (some (k : Int)) = (gs.take k).map V.int := by
  unfold cutV
  rw [HT.sIx_nat, List.map_take]
  show List.take (min k _ - 0) (List.drop 0 _) = _
  rw [List.drop_zero, Nat.sub_zero, List.length_map]
  by_cases h : k ≤ gs.length
  · rw [Nat.min_eq_left h]
  · rw [Nat.min_eq_right (by omega), List.take_of_length_le (by simp), List.take_of_length_le (by simp; omega)]
theorem take_next {gs : List Int} {j : Nat} (h : j < gs.length) : gs.take (j + 1) = gs.take j ++ [gs[j]] := by
  rw [List.take_succ, List.getElem?_eq_getElem h]; rfl
theorem take_new {gs : List Int} (nd : gs.Nodup) {j : Nat} (h : j < gs.length) : gs[j] ∉ gs.take j := by
  intro z
  obtain ⟨i, hi, e⟩ := List.mem_take_iff_getElem.mp z
  have := (List.getElem_inj nd).mp e
  omega
def sT (n : Nat) (f : Nat → Option Int) : Nat → Int
  | 0 => 0
  | k + 1 => match f k with
    | none => sT n f k
    | some g => sT n f k + farI g k n
def sM (n : Nat) (f : Nat → Option Int) : Nat → Int
  | 0 => 0
  | k + 1 => match f k with
    | none => sM n f k
    | some g => if farI g k n > sM n f k then farI g k n else sM n f k
def sS (n : Nat) (f : Nat → Option Int) : Nat → Int
  | 0 => 0
  | k + 1 => match f k with
    | none => sS n f k
    | some g => sS n f k + farI g k n * farI g k n
end RS
/-! ### the class House: its methods by their names -/
namespace RS
open PySem PySem.Spec PyProof.Rows L2
structure CalM (P : Program) (w : World) (K : PySem.W.Frag) (mg : Str → Option Value) (base : Heap) (CX : CXT) (k : Nat) (C : Addr) (m : Str) (ps : List Str) (sp : Sp) : Prop where
  ex : ∃ f fd, FnOk P w K mg base CX k f fd ps sp ∧ Meth K C m f ∧ Binds K fd ps []
theorem CalM.use {P : Program} {w : World} {K : PySem.W.Frag} {mg : Str → Option Value} {base : Heap} {CX : CXT} {k : Nat} {C : Addr} {m : Str} {ps : List Str} {sp : Sp} {α : Prop} (c : CalM P w K mg base CX k C m ps sp)
    (h : ∀ f fd, FnOk P w K mg base CX k f fd ps sp → Meth K C m f → Binds K fd ps [] → α) : α := by
  obtain ⟨f, fd, a, b, d⟩ := c.ex
  exact h f fd a b d
/-- House(..): its __init__, with one value or with the default -/
structure CalI (P : Program) (w : World) (K : PySem.W.Frag) (mg : Str → Option Value) (base : Heap) (k : Nat) (C : Addr) (ps : List Str) (dflt : V) (sp : Sp) : Prop where
  ex : ∃ f fd, FnOk P w K mg base (L2.CX P w) k f fd ps sp ∧ Mk K C f ∧ Binds K fd ps [] ∧ ∃ d, RelV dflt d ∧ Binds K fd ps [d]
theorem CalI.use {P : Program} {w : World} {K : PySem.W.Frag} {mg : Str → Option Value} {base : Heap} {k : Nat} {C : Addr} {ps : List Str} {dflt : V} {sp : Sp} {α : Prop} (c : CalI P w K mg base k C ps dflt sp)
    (h : ∀ f fd, FnOk P w K mg base (L2.CX P w) k f fd ps sp → Mk K C f → Binds K fd ps [] → (∃ d, RelV dflt d ∧ Binds K fd ps [d]) → α) : α := by
  obtain ⟨f, fd, a, b, d, e⟩ := c.ex
  exact h f fd a b d e
/-- what the class says -/
structure HF (K : PySem.W.Frag) (C : Addr) : Prop where
  cl : Cls K C
  most : NoAttr K C "most"
  seats : NoAttr K C "seats"
/-- o.m(..) in a try -/
def tMethW (C : Addr) (m : Str) (sp : Sp) (E : L2.St → XK) (ta : TE) (t : TA) : TE := fun σ H Q => ta σ H fun x H1 => ∃ a dx fs, x = .ref a ∧ H1 a = some (.ins C dx fs) ∧ fs.lookup m = none ∧ t σ H1 fun vs H2 => sp (x :: vs) H2 Q (E σ)
section
variable {X : Cx} {CX : CXT} {k : Nat} {f C : Addr} {fd : FuncData} {ps : List Str} {sp : Sp} {E : L2.St → XK} {m : Str} {pos apos : Pos} {e o : Expr} {es : List Expr} {ta : TE} {t : TA}
theorem pe_methW {pl : Sem Bool} (he : PE X o ta) (c : Cls X.K C) (hm : Meth X.K C m f) (F : FnOk X.prog X.w X.K X.mg X.base CX k f fd ps sp) (hr : Room k X.A) (hb : Binds X.K fd ps []) (hx : ∀ σ, PassesAt CX X σ (E σ)) (ha : PA X (e :: es) t)
    (hst : starEach (e :: es) X.env = (false, eval e X.env) :: starEach es X.env := by rfl) (hpl : (backTo pos (starEach es X.env)).any (·.1) = false := by rfl)
    (ht : eval (.Call (.Attribute o m apos) (e :: es) [] pos) X.env = (do let ov ← eval o X.env; standAt apos.atName; let (f, first) ← holding [ov] (getMethod ov m pl); callWith pos f first (backTo pos (starEach (e :: es) X.env)) (backToKw pos (keywordEach [] X.env))) := by rfl) :
    PE X (.Call (.Attribute o m apos) (e :: es) [] pos) (tMethW C m sp E ta t) := by
  refine ⟨fun pins s σ H Q I h => PySem.W.methodCall_KW (pl := pl) (thn (he.run pins s σ H _ I h) fun v s1 ⟨x, H1, I1, rx, a, dx, fs, ex, ea, l, q⟩ => ?_) ht⟩
  subst ex
  obtain rfl : v = Value.ref a := rx
  refine getmeth_ok I1 ea c hm l (PySem.W.callWith_K (first := [.ref a]) (h₀ := X.base) I.ok.mod.kin hm.kp (thn (ha.run pos pins s1 σ H1 _ I1 q) fun vs s2 ⟨ws, H2, I2, r, q2⟩ => ⟨I2.kIn, ?_⟩) hst hpl)
  exact run_fnS (us := .ref a :: vs) (vs := .ref a :: ws) F hr hb (hx σ) I2 (.cons rfl r) q2
end
end RS
namespace RS
open PySem PySem.Spec PyProof.Rows L2
structure TopH (K : PySem.W.Frag) (mg : Str → Option Value) (C : Cs) : Prop extends Top K mg C where
  gHouse : mg "House" = some (.ref C.cHouse)
  h : HF K C.cHouse
/-- a method of the class, by its name -/
structure DefM (K : PySem.W.Frag) (C : Addr) (m q : Str) (st : Stmt) : Prop where
  ex : ∃ f fd, Fun K m q st f fd ∧ Meth K C m f
theorem def_mkM {K : PySem.W.Frag} {C : Addr} {m q : Str} {st : Stmt} {f : Addr} {od an : Option Addr} {sl : Array (Option Value)} {oc kV dc pm cd ct : Value}
    (a : PySem.W.findIn K (.ref C) m = some (some (.ref f))) (i : PySem.W.isFn K (.ref f) = true) (l : K.lookup f = some ⟨oc, od, .func (PySem.W.fnOf m q (defArgs st) (defBody st) (defScope st) .none kV dc pm an cd ct), sl⟩)
    (c : PySem.W.codeIn K cd q = true) (k : PySem.W.keepIn K (.ref f) = true) : DefM K C m q st := ⟨f, _, fun_mk l c k, ⟨a, i, k⟩⟩
/-- __init__ with one default, a whole number -/
structure DefI (K : PySem.W.Frag) (C : Addr) (st : Stmt) : Prop where
  ex : ∃ f fd, FunD K "__init__" "House.__init__" (defArgs st) (defBody st) (defScope st) [.int 96] [] f fd ∧ Mk K C f
theorem def_mkI {K : PySem.W.Frag} {C : Addr} {st : Stmt} {f T : Addr} {od an : Option Addr} {sl : Array (Option Value)} {oc kV dc pm cd ct : Value} {o1 : Value} {o2 : Option Addr} {o4 : Array (Option Value)} {tk : Tok} {n : Nat}
    (a : PySem.W.findIn K (.ref C) "__init__" = some (some (.ref f))) (i : PySem.W.isFn K (.ref f) = true) (l : K.lookup f = some ⟨oc, od, .func (PySem.W.fnOf "__init__" "House.__init__" (defArgs st) (defBody st) (defScope st) (.ref T) kV dc pm an cd ct), sl⟩)
    (c : PySem.W.codeIn K cd "House.__init__" = true) (k : PySem.W.keepIn K (.ref f) = true) (lT : K.lookup T = some ⟨o1, o2, .seq #[.int 96 tk] n, o4⟩) (mk : PySem.W.makesIn K C = true) (kc : PySem.W.keepIn K (.ref C) = true) : DefI K C st :=
  ⟨f, _, ⟨⟨oc, od, .ref T, kV, dc, pm, an, cd, ct, sl, rfl, l, c, .inr ⟨by simp, T, _, [.int 96 tk], n, rfl, lT, rfl, .cons ⟨tk, rfl⟩ .nil⟩, .inl rfl⟩, k⟩, ⟨mk, a, i, kc⟩⟩
theorem topH_mk {K : PySem.W.Frag} {h : Heap} {mg : Str → Option Value} {C : Cs} (X : K.In h) (G : h.Ns mainGlobals mg) (T : Top K mg C) (nH : PySem.W.nsIn K mainGlobals "House" = some (some (.ref C.cHouse)))
    (pg : PySem.W.plainGet K C.cHouse Str.empty = true) (hd : PySem.W.hasDictIn K C.cHouse = true) (po : PySem.W.plainOver K C.cHouse = true) (sa : PySem.W.findIn K (.ref C.cHouse) "__setattr__" = some (some (.builtin "object.__setattr__")))
    (nm : PySem.W.findIn K (.ref C.cHouse) "most" = some none) (ns : PySem.W.findIn K (.ref C.cHouse) "seats" = some none) : TopH K mg C := ⟨T, PySem.W.mg_of X G nH, ⟨⟨pg, hd, po, sa⟩, nm, ns⟩⟩
end RS
/-! ### a house in the heap -/
namespace RS
open PySem PySem.Spec PyProof.Rows L2
abbrev hfs (M : Nat) (s : Addr) : List (Str × V) := [("most", .int M), ("seats", .ref s)]
theorem hfs_most {M : Nat} {s : Addr} : (hfs M s).lookup ("most" : Str) = some (.int M) := rfl
theorem hfs_seats {M : Nat} {s : Addr} : (hfs M s).lookup ("seats" : Str) = some (.ref s) := rfl
structure Hs0 (C : Cs) (H : Hp) (p : Addr) (M : Nat) (s : Addr) (n : Nat) (f : Nat → Option Int) (gs : List Int) : Prop where
  hp : ∃ dx, H p = some (.ins C.cHouse dx (hfs M s))
  hs : H s = some (.lst (row n f))
  S : Seat n f gs
  n2 : 2 ≤ n
  n3 : n ≤ 1024
theorem Hs0.sq {K : PySem.W.Frag} {C : Cs} {H : Hp} {p : Addr} {M : Nat} {s : Addr} {n : Nat} {f : Nat → Option Int} {gs : List Int} (h : Hs0 C H p M s n f gs) : SqL K H s (row n f) := .inl (.inl h.hs)
def Off2 (p s : Addr) (H H' : Hp) : Prop := ∀ b o, b ≠ p → b ≠ s → H b = some o → H' b = some o
theorem Off2.same {p s : Addr} {H H' : Hp} (x : Same H H') : Off2 p s H H' := fun b o _ _ h => x b o h
section
variable {C : Cs} {H H' : Hp} {p : Addr} {M : Nat} {s : Addr} {n : Nat} {f : Nat → Option Int} {gs : List Int}
theorem Hs0.same (h : Hs0 C H p M s n f gs) (e : Same H H') : Hs0 C H' p M s n f gs := by
  obtain ⟨dx, hp⟩ := h.hp
  exact ⟨⟨dx, e _ _ hp⟩, e _ _ h.hs, h.S, h.n2, h.n3⟩
theorem Hs0.ne (h : Hs0 C H p M s n f gs) : s ≠ p := fun z => by
  obtain ⟨dx, hp⟩ := h.hp
  have := h.hs
  rw [z, hp] at this; cases this
/-- another row in the same place -/
theorem Hs0.put {f' : Nat → Option Int} {gs' : List Int} (h : Hs0 C H p M s n f gs) (o : Off s H H') (e : H' s = some (.lst (row n f'))) (S' : Seat n f' gs') : Hs0 C H' p M s n f' gs' := by
  obtain ⟨dx, hp⟩ := h.hp
  exact ⟨⟨dx, o _ _ (fun z => h.ne z.symm) hp⟩, e, S', h.n2, h.n3⟩
end
theorem Seat.list {n : Nat} {f : Nat → Option Int} {gs hs : List Int} (S : Seat n f gs) (nd : hs.Nodup) (e : ∀ x, x ∈ hs ↔ x ∈ gs) : Seat n f hs := by
  have hl : hs.length ≤ gs.length := List.Nodup.length_le_of_subset nd fun x hx => (e x).mp hx
  exact ⟨S.P, nd, fun x => by rw [S.st, e], by have := S.lt; omega, fun x hx => S.g x ((e x).mp hx)⟩
theorem Seat.pm {n : Nat} {f : Nat → Option Int} {gs hs : List Int} (S : Seat n f gs) (e : hs.Perm gs) : Seat n f hs := S.list (e.nodup_iff.mpr S.nd) fun _ => e.mem_iff
abbrev offG (gs : List Int) (g : Int) : List Int := gs.filter fun y => decide (y ≠ g)
theorem offG_mem {gs : List Int} {g y : Int} : y ∈ offG gs g ↔ y ∈ gs ∧ y ≠ g := by rw [List.mem_filter, decide_eq_true_eq]
theorem offG_nd {gs : List Int} {g : Int} (h : gs.Nodup) : (offG gs g).Nodup := h.sublist List.filter_sublist
theorem offG_len {gs : List Int} {g : Int} (nd : gs.Nodup) (h : g ∈ gs) : (offG gs g).length + 1 = gs.length := by
  have pm : (g :: offG gs g).Perm gs := (List.perm_ext_iff_of_nodup (List.nodup_cons.mpr ⟨fun z => (offG_mem.mp z).2 rfl, offG_nd nd⟩) nd).mpr fun y => by
    rw [List.mem_cons, offG_mem]
    exact ⟨fun z => z.elim (fun e => e ▸ h) (fun z => z.1), fun z => if w : y = g then .inl w else .inr ⟨z, w⟩⟩
  simpa using pm.length_eq
theorem cnt_row {n : Nat} {f : Nat → Option Int} : (row n f).countP (fun z => eqV z .non) = Ring.em n f := by
  unfold row Ring.em
  rw [List.countP_map]
  refine List.countP_congr fun p _ => ?_
  show eqV (ov (f p)) .non = true ↔ _
  cases f p <;> simp [ov, eqV]
end RS
/-! "run": a reading is worked off by rewriting, from the left -/
local macro_rules | `(tactic| walk_at "run") => `(tactic| simp only [L2.tSeq, L2.tAsg, L2.gName, L2.tVar, L2.tC, L2.tOp, L2.tUn, L2.tTest, L2.tB, L2.tIfS, L2.tNext, L2.tRet, L2.tRetN, L2.tDrop, L2.tCall, L2.tCons, L2.tNil, L2.tCB, L2.tAnd, L2.tOr, L2.tNot, L2.tAndV, L2.tOrV, L2.tNotV, L2.tIf, L2.tIsN, L2.tNotN, L2.tBreak, L2.tCont, L2.tTup, L2.tLst, L2.gTup, L2.gCons, L2.gNil, L2.gSub, L2.tChain, L2.tDGet, L2.tDIn, L2.tDNotIn, L2.sDPut, L2.tDNewK, L2.tFld, L2.tMeth,
  L2.rI, L2.rI0, L2.rU, L2.rEq, L2.rNe, L2.rIxL, L2.rIxT, L2.rIn, L2.rIsi, L2.rSetL, L2.rCat, L2.rRep, L2.rSlL, L2.tSl, RS.tStepL, L2.tPart, L2.tNoPart, L2.tYes, RS.ov_non, RS.ov_some, L2.rIsB, L2.rNotB, RS.rIsA, RS.isWh_int, RS.isWh_bl, RS.isWh_non, RS.isWh_ref, RS.Ty.nm, RS.Ty.isA, RS.tyOf_int, RS.tyOf_bl, RS.tyOf_non, RS.tyOf_str, RS.rLenS, RS.rLenD, L2.rListD, L2.tBM0, RS.rListS, RS.rMax2, RS.rMin2, RS.rInt1, RS.rStr1, RS.CMl, L2.CDiv, L2.scal,
  List.getElem?_cons_zero, List.getElem?_cons_succ, List.set_cons_zero, List.set_cons_succ, List.append_nil, List.nil_append, List.cons_append,
  Option.some.injEq, L2.V.int.injEq, L2.V.bl.injEq, L2.V.ref.injEq, L2.V.str.injEq, List.cons.injEq, List.nil_eq, reduceCtorEq,
  exists_eq, exists_eq', exists_eq_left, exists_eq_left', exists_eq_right, exists_eq_right', exists_and_left, exists_and_right, exists_const, and_assoc, Int.reduceLT, Int.reduceLE, Int.reduceNeg, Nat.reduceLT, Nat.reduceLeDiff, List.length_cons, List.length_nil, Nat.reduceAdd, Int.reduceMul, Int.reduceSub, true_or, or_true, true_and, and_true, and_self, false_and, and_false, or_false, false_or, decide_eq_true_eq, Bool.not_eq_true', Bool.not_eq_true, decide_eq_false_iff_not, Bool.not_not, Bool.true_eq_false, Bool.false_eq_true, if_true, if_false, Bool.not_true, Bool.not_false, decide_true, decide_false, eq_self, not_true_eq_false, not_false_eq_true, ite_true, ite_false])
local macro_rules | `(tactic| walk_at "nxt") => `(tactic| dsimp only [L2.tSeq, L2.tNext, List.set_cons_zero, List.set_cons_succ])
namespace RS
open PySem PySem.Spec PyProof.Rows L2
/-- who is there, as the dict's entries -/
def dG (gs : List Int) : List (Key × V) := gs.map fun g => (.inl g, .bl true)
theorem dG_len {gs : List Int} : (dG gs).length = gs.length := List.length_map _
theorem dG_val {gs : List Int} {g : Int} : (valV (dG gs) (.inl g)).isSome = decide (g ∈ gs) := by
  rw [← valV_any]
  unfold dG
  rw [List.any_map, Bool.eq_iff_iff, List.any_eq_true, decide_eq_true_eq]
  constructor
  · rintro ⟨x, hx, e⟩
    have : (Sum.inl x : Key) = .inl g := of_decide_eq_true e
    cases this; exact hx
  · intro h; exact ⟨g, h, decide_eq_true rfl⟩
theorem dG_put {gs : List Int} {g : Int} (h : g ∉ gs) : putK (dG gs) (.inl g) (.bl true) = dG (gs ++ [g]) := by
  unfold putK
  rw [valV_any, dG_val, decide_eq_false h, if_neg (by decide)]
  unfold dG; rw [List.map_append]; rfl
theorem dG_keys {gs : List Int} : ((dG gs).map fun kv => kV kv.1) = gs.map V.int := by
  unfold dG; rw [List.map_map]; rfl
theorem dG_drop {gs : List Int} {g : Int} : dropK (dG gs) (.inl g) = dG (offG gs g) := by
  unfold dropK dG offG
  rw [List.filter_map]
  congr 1
  refine List.filter_congr fun x _ => ?_
  show decide ((Sum.inl x : Key) ≠ .inl g) = decide (x ≠ g)
  exact decide_eq_decide.mpr ⟨fun h e => h (by rw [e]), fun h e => h (by cases e; rfl)⟩
def sp_is_guest (K : PySem.W.Frag) (C : Cs) : Sp := fun vs H Q _ => ∃ (x : V) (s : Ty), vs = [x] ∧ tyOf H x = some s ∧ Q (.bl (isG x)) H
def sp_home (K : PySem.W.Frag) (C : Cs) : Sp := fun vs H Q _ => ∃ g n : Int, vs = [.int g, .int n] ∧ 0 < n ∧ Q (.int (homeI g n)) H
def sp_carried (K : PySem.W.Frag) (C : Cs) : Sp := fun vs H Q _ => ∃ g p n : Int, vs = [.int g, .int p, .int n] ∧ 0 < n ∧ Q (.int (farI g p n)) H
def sp_ahead (K : PySem.W.Frag) (C : Cs) : Sp := fun vs H Q _ => ∃ a b p n : Int, vs = [.int a, .int b, .int p, .int n] ∧ 0 < n ∧ Q (.bl (aheadI a b p n)) H
def roomI (n : Int) : Int := if n ≤ 6 then 8 else if n ≤ 12 then 16 else if n ≤ 24 then 32 else if n ≤ 48 then 64 else if n ≤ 96 then 128 else 256
theorem roomI_ok (n : Int) (h0 : 0 ≤ n) (h1 : n ≤ 192) : (roomI n = 8 ∨ roomI n = 16 ∨ roomI n = 32 ∨ roomI n = 64 ∨ roomI n = 128 ∨ roomI n = 256) ∧ 4 * n ≤ 3 * roomI n ∧ (8 < roomI n → 3 * (roomI n / 2) < 4 * n) := by
  unfold roomI; repeat' split
  all_goals omega
def sp_room (K : PySem.W.Frag) (C : Cs) : Sp := fun vs H Q _ => ∃ n : Int, vs = [.int n] ∧ 0 ≤ n ∧ n ≤ 192 ∧ Q (.int (roomI n)) H
def sp_look_for (K : PySem.W.Frag) (C : Cs) : Sp := fun vs H Q E => ∃ (a : Addr) (n : Nat) (f : Nat → Option Int) (x : V) (s : Ty), vs = [.ref a, x] ∧ SqL K H a (row n f) ∧ 1 ≤ n ∧ n ≤ 1024 ∧ (∃ e, e < n ∧ f e = none) ∧ tyOf H x = some s ∧
  (isG x = false → E (.ref C.cNoGuest) none H) ∧ ∀ g, x = .int g → isG x = true → ∀ (H' : Hp) (t : Addr) (p : Nat), Same H H' → p < n → Ring.Loc n (hm n) f g p → H' t = some (.tup [.int p, .int ((Ring.far n (hm n g) p + 1 : Nat) : Int)]) → Q (.ref t) H'
def sp_place_of (K : PySem.W.Frag) (C : Cs) : Sp := fun vs H Q E => ∃ (a : Addr) (n : Nat) (f : Nat → Option Int) (x : V) (s : Ty), vs = [.ref a, x] ∧ SqL K H a (row n f) ∧ 1 ≤ n ∧ n ≤ 1024 ∧ (∃ e, e < n ∧ f e = none) ∧ tyOf H x = some s ∧
  (isG x = false → E (.ref C.cNoGuest) none H) ∧ ∀ g, x = .int g → isG x = true → ∀ (H' : Hp) (p : Nat), Same H H' → p < n → Ring.Loc n (hm n) f g p → Q (if f p = some g then .int p else .non) H'
def sp_take_seat (K : PySem.W.Frag) (C : Cs) : Sp := fun vs H Q _ => ∃ (a : Addr) (n : Nat) (f : Nat → Option Int) (g : Int), vs = [.ref a, .int g] ∧ H a = some (.lst (row n f)) ∧ 2 ≤ n ∧ n ≤ 1024 ∧ Ring.Path n (hm n) f ∧ (∃ e, e < n ∧ f e = none) ∧ ¬ Ring.Sits n f g ∧ isG (.int g) = true ∧
  ∀ (H' : Hp) (f' : Nat → Option Int) (p : Nat), Off a H H' → H' a = some (.lst (row n f')) → Ring.Path n (hm n) f' → (∀ x, Ring.Sits n f' x ↔ Ring.Sits n f x ∨ x = g) → p < n → f' p = some g → Q (.int p) H'
def sp_leave_seat (K : PySem.W.Frag) (C : Cs) : Sp := fun vs H Q _ => ∃ (a : Addr) (n : Nat) (f : Nat → Option Int) (p : Nat) (g : Int), vs = [.ref a, .int p] ∧ H a = some (.lst (row n f)) ∧ 2 ≤ n ∧ n ≤ 1024 ∧ Ring.Path n (hm n) f ∧ (∃ e, e < n ∧ f e = none) ∧ p < n ∧ f p = some g ∧
  ∀ f', Ring.Path n (hm n) f' → (∀ x, Ring.Sits n f' x ↔ Ring.Sits n f x ∧ x ≠ g) → Q .non (upd H a (.lst (row n f')))
theorem all_ints {xs : List V} (h : ∀ x ∈ xs, isG x = true) : ∃ gs : List Int, xs = gs.map V.int ∧ ∀ g ∈ gs, isG (.int g) = true := by
  induction xs with
  | nil => exact ⟨[], rfl, fun _ h => nomatch h⟩
  | cons x xs ih =>
    obtain ⟨gs, rfl, hg⟩ := ih fun y hy => h y (List.mem_cons_of_mem _ hy)
    obtain ⟨g, rfl⟩ := isG_int (h x List.mem_cons_self)
    refine ⟨g :: gs, rfl, fun y hy => ?_⟩
    rcases List.mem_cons.mp hy with rfl | hy
    · exact h _ List.mem_cons_self
    · exact hg y hy
def sp_looked_through (K : PySem.W.Frag) (C : Cs) : Sp := fun vs H Q E => ∃ (a : Addr) (xs : List V) (n : Nat), vs = [.ref a, .int n] ∧ SqL K H a xs ∧ xs.length ≤ 1000 ∧ (∀ x ∈ xs, ∃ s, tyOf H x = some s) ∧
  ((∃ x ∈ xs, isG x = false) → E (.ref C.cNoGuest) none H) ∧ ∀ gs : List Int, xs = gs.map V.int → (∀ g ∈ gs, isG (.int g) = true) → (¬ gs.Nodup → E (.ref C.cTwice) none H) ∧ (gs.Nodup → n ≤ gs.length → E (.ref C.cFull) none H) ∧ (gs.Nodup → gs.length < n → Q .non H)
def sp_seated (K : PySem.W.Frag) (C : Cs) : Sp := fun vs H Q E => ∃ (a : Addr) (xs : List V) (n : Nat), vs = [.ref a, .int n] ∧ SqL K H a xs ∧ xs.length ≤ 1000 ∧ 2 ≤ n ∧ n ≤ 1024 ∧ (∀ x ∈ xs, ∃ s, tyOf H x = some s) ∧
  ((∃ x ∈ xs, isG x = false) → E (.ref C.cNoGuest) none H) ∧ ∀ gs : List Int, xs = gs.map V.int → (∀ g ∈ gs, isG (.int g) = true) → (¬ gs.Nodup → E (.ref C.cTwice) none H) ∧ (gs.Nodup → n ≤ gs.length → E (.ref C.cFull) none H) ∧
    (gs.Nodup → gs.length < n → ∀ (H' : Hp) (s : Addr) (f : Nat → Option Int), Same H H' → H' s = some (.lst (row n f)) → H s = none → Seat n f gs → Q (.ref s) H')
structure Hs (C : Cs) (H : Hp) (p : Addr) (M : Nat) (s : Addr) (n : Nat) (f : Nat → Option Int) (gs : List Int) : Prop extends Hs0 C H p M s n f gs where
  rm : (n : Int) = roomI gs.length
  lM : gs.length ≤ M
  M3 : M ≤ 192
theorem Hs.same {C : Cs} {H H' : Hp} {p : Addr} {M : Nat} {s : Addr} {n : Nat} {f : Nat → Option Int} {gs : List Int} (h : Hs C H p M s n f gs) (e : Same H H') : Hs C H' p M s n f gs := ⟨h.toHs0.same e, h.rm, h.lM, h.M3⟩
theorem roomI_nat {c : Nat} (h : c ≤ 192) : ∃ n : Nat, roomI (c : Int) = (n : Int) ∧ 8 ≤ n ∧ n ≤ 256 ∧ 4 * c ≤ 3 * n := by
  obtain ⟨h1, h2, _⟩ := roomI_ok (c : Int) (by omega) (by omega)
  exact ⟨(roomI c).toNat, by omega, by omega, by omega, by omega⟩
def sp_House_init (K : PySem.W.Frag) (C : Cs) : Sp := fun vs H Q E => ∃ (p dx : Addr) (x : V) (t : Ty), vs = [.ref p, x] ∧ H p = some (.ins C.cHouse dx []) ∧ tyOf H x = some t ∧
  (∀ M : Nat, x = .int M → M ≤ 192 → ∀ (H' : Hp) (s : Addr), Off p H H' → H s = none → Hs C H' p M s 8 (fun _ => none) [] → Q .non H') ∧
  ((∀ i : Int, x = .int i → i < 0 ∨ 192 < i) → E (.ref C.cNoSize) none H)
def sp_House_come (K : PySem.W.Frag) (C : Cs) : Sp := fun vs H Q E => ∃ (p : Addr) (M : Nat) (s : Addr) (n : Nat) (f : Nat → Option Int) (gs : List Int) (x : V) (t : Ty), vs = [.ref p, x] ∧ Hs C H p M s n f gs ∧ tyOf H x = some t ∧
  (isG x = false → E (.ref C.cNoGuest) none H) ∧ ∀ g, x = .int g → isG x = true → (g ∈ gs → ∀ H', Same H H' → E (.ref C.cTwice) none H') ∧ (g ∉ gs → M ≤ gs.length → ∀ H', Same H H' → E (.ref C.cFull) none H') ∧
    (g ∉ gs → gs.length < M → ∀ (H' : Hp) (s' : Addr) (n' : Nat) (f' : Nat → Option Int) (q : Nat), Off2 p s H H' → (s' = s ∨ H s' = none) → Hs C H' p M s' n' f' (gs ++ [g]) → q < n' → f' q = some g → Q (.int q) H')
def sp_House_go (K : PySem.W.Frag) (C : Cs) : Sp := fun vs H Q E => ∃ (p : Addr) (M : Nat) (s : Addr) (n : Nat) (f : Nat → Option Int) (gs : List Int) (x : V) (t : Ty), vs = [.ref p, x] ∧ Hs C H p M s n f gs ∧ tyOf H x = some t ∧
  (isG x = false → E (.ref C.cNoGuest) none H) ∧ ∀ g, x = .int g → isG x = true → (g ∉ gs → ∀ H', Same H H' → E (.ref C.cAway) none H') ∧
    (g ∈ gs → ∀ (H' : Hp) (s' : Addr) (n' : Nat) (f' : Nat → Option Int) (q : Nat), Off2 p s H H' → (s' = s ∨ H s' = none) → Hs C H' p M s' n' f' (offG gs g) → q < n → f q = some g → Q (.int q) H')
def sp_House_seat_of (K : PySem.W.Frag) (C : Cs) : Sp := fun vs H Q E => ∃ (p : Addr) (M : Nat) (s : Addr) (n : Nat) (f : Nat → Option Int) (gs : List Int) (x : V) (t : Ty), vs = [.ref p, x] ∧ Hs0 C H p M s n f gs ∧ tyOf H x = some t ∧
  (isG x = false → E (.ref C.cNoGuest) none H) ∧ ∀ g, x = .int g → isG x = true → ∀ (H' : Hp) (q : Nat), Same H H' → q < n → Ring.Loc n (hm n) f g q → Q (if f q = some g then .int q else .non) H'
def sp_House_row (K : PySem.W.Frag) (C : Cs) : Sp := fun vs H Q _ => ∃ (p : Addr) (M : Nat) (s : Addr) (n : Nat) (f : Nat → Option Int) (gs : List Int), vs = [.ref p] ∧ Hs0 C H p M s n f gs ∧ ∀ d, H d = none → Q (.ref d) (upd H d (.lst (row n f)))
def sp_House_guests (K : PySem.W.Frag) (C : Cs) : Sp := fun vs H Q _ => ∃ (p : Addr) (M : Nat) (s : Addr) (n : Nat) (f : Nat → Option Int) (gs : List Int), vs = [.ref p] ∧ Hs0 C H p M s n f gs ∧
  ∀ (H' : Hp) (d : Addr) (ys : List Int), Same H H' → H d = none → H' d = some (.lst (ys.map V.int)) → ys.Perm gs → ys.Pairwise (· ≤ ·) → Q (.ref d) H'
def sp_House_many (K : PySem.W.Frag) (C : Cs) : Sp := fun vs H Q _ => ∃ (p : Addr) (M : Nat) (s : Addr) (n : Nat) (f : Nat → Option Int) (gs : List Int), vs = [.ref p] ∧ Hs0 C H p M s n f gs ∧ Q (.int (gs.length : Nat)) H
def cellI (ns : List Int) (k : Int) : Int := if k < ns.length then ns.getD k.toNat 0 else 0
def sp_law_cell_at (K : PySem.W.Frag) (C : Cs) : Sp := fun vs H Q _ => ∃ (a : Addr) (ns : List Int) (k : Int), vs = [.ref a, .int k] ∧ SqL K H a (ns.map V.int) ∧ 0 ≤ k ∧ Q (.int (cellI ns k)) H
def sp_law_whole (K : PySem.W.Frag) (C : Cs) : Sp := fun vs H Q _ => ∃ (x : V) (s : Ty), vs = [x] ∧ tyOf H x = some s ∧ Q (.bl (isWh x)) H
def sp_law_home (K : PySem.W.Frag) (C : Cs) : Sp := fun vs H Q _ => ∃ g n : Int, vs = [.int g, .int n] ∧ 0 < n ∧ Q (.int (homeI g n)) H
def baseI (c : Int) : Int := if c % 2 = 0 then c / 2 % 10000000000000000000000000000000000000000000000000000000000 else c / 2 % 70001
theorem baseI_ok (c : Int) : 0 ≤ baseI c ∧ baseI c < 10000000000000000000000000000000000000000000000000000000000 := by
  unfold baseI; split <;> omega
def sp_law_base (K : PySem.W.Frag) (C : Cs) : Sp := fun vs H Q _ => ∃ c : Int, vs = [.int c] ∧ Q (.int (baseI c)) H
def gstI (c b : Int) : Int := if c % 5 = 0 then c / 5 % 1000000000000000000000000000000000000000000000000000000000000 else if c % 5 = 1 then c / 5 % 400 else if c % 5 = 2 then b + 4294967296 * (c / 5 % 10000000000000000000000000000000000000000) else if c % 5 = 3 then b + 65536 * (c / 5 % 12) else b + 65536 * (c / 5 % 3) + 4294967296 * (c / 5 / 3 % 7)
theorem gstI_ok (c b : Int) (h0 : 0 ≤ b) (h1 : b < 10000000000000000000000000000000000000000000000000000000000) : 0 ≤ gstI c b ∧ gstI c b < 1000000000000000000000000000000000000000000000000000000000000 := by
  unfold gstI; repeat' split
  all_goals omega
theorem gstI_g (c b : Int) (h : 0 ≤ b ∧ b < 10000000000000000000000000000000000000000000000000000000000) : isG (.int (gstI c b)) = true := by
  obtain ⟨h0, h1⟩ := gstI_ok c b h.1 h.2
  exact isG_yes h0 h1
def sp_law_guest (K : PySem.W.Frag) (C : Cs) : Sp := fun vs H Q _ => ∃ c b : Int, vs = [.int c, .int b] ∧ Q (.int (gstI c b)) H
def sp_law_room (K : PySem.W.Frag) (C : Cs) : Sp := fun vs H Q _ => ∃ n : Int, vs = [.int n] ∧ 0 ≤ n ∧ n ≤ 192 ∧ Q (.int (roomI n)) H
theorem far_before_is {n k : Nat} (hk : k < n) (g : Int) : ((k : Int) - 1 - homeI g n) % (n : Int) = (Ring.far n (hm n g) (Ring.pv n k) : Int) := by
  have hn : 0 < n := by omega
  rw [hm_is hn, ← mod_far (hm_lt hn g) (Ring.pv_lt hk), ← pv_is hk, Int.emod_sub_emod]
def sp_law_settled (K : PySem.W.Frag) (C : Cs) : Sp := fun vs H Q _ => ∃ (s a : Addr) (n : Nat) (f : Nat → Option Int) (gs : List Int), vs = [.ref s, .int n, .ref a] ∧ H s = some (.lst (row n f)) ∧ SqL K H a (gs.map V.int) ∧ n ≤ 1024 ∧ Ring.Path n (hm n) f ∧ (∃ e, e < n ∧ f e = none) ∧ (Ring.gl n f).Perm gs ∧ ∀ H', Same H H' → Q (.bl true) H'
def mostI (c : Int) : Int := if c % 3 = 0 then 96 else if c % 3 = 1 then 3 + c / 3 % 20 else c / 3 % 193
theorem mostI_ok (c : Int) : 0 ≤ mostI c ∧ mostI c ≤ 192 := by
  unfold mostI; repeat' split
  all_goals omega
theorem mostI_nat (c : Int) : ∃ M : Nat, mostI c = (M : Int) ∧ M ≤ 192 := by
  obtain ⟨h0, h1⟩ := mostI_ok c
  exact ⟨(mostI c).toNat, by omega, by omega⟩
def sp_law_most (K : PySem.W.Frag) (C : Cs) : Sp := fun vs H Q _ => ∃ c : Int, vs = [.int c] ∧ Q (.int (mostI c)) H
def sp_law_house (K : PySem.W.Frag) (C : Cs) : Sp := fun vs H Q _ => ∃ c : Int, vs = [.int c] ∧ ∀ (H' : Hp) (p : Addr) (M : Nat) (s : Addr), Same H H' → mostI c = (M : Int) → Hs C H' p M s 8 (fun _ => none) [] → H p = none → H s = none → Q (.ref p) H'
def sp_law_done (K : PySem.W.Frag) (C : Cs) : Sp := fun vs H Q _ => ∃ (p : Addr) (M : Nat) (s : Addr) (n : Nat) (f : Nat → Option Int) (gs : List Int) (g : Int) (b : Bool), vs = [.ref p, .int g, .bl b] ∧ Hs C H p M s n f gs ∧ isG (.int g) = true ∧
  (b = true → (g ∈ gs → ∀ (H' : Hp) (d : Addr), Same H H' → H' d = some (.lst [.bl true, .bl false, .bl false]) → Q (.ref d) H') ∧ (g ∉ gs → M ≤ gs.length → ∀ (H' : Hp) (d : Addr), Same H H' → H' d = some (.lst [.bl false, .bl true, .bl false]) → Q (.ref d) H') ∧
    (g ∉ gs → gs.length < M → ∀ (H' : Hp) (s' : Addr) (n' : Nat) (f' : Nat → Option Int) (q : Nat), Off2 p s H H' → (s' = s ∨ H s' = none) → Hs C H' p M s' n' f' (gs ++ [g]) → q < n' → f' q = some g → Q (.int q) H')) ∧
  (b = false → (g ∉ gs → ∀ (H' : Hp) (d : Addr), Same H H' → H' d = some (.lst [.bl false, .bl false, .bl true]) → Q (.ref d) H') ∧
    (g ∈ gs → ∀ (H' : Hp) (s' : Addr) (n' : Nat) (f' : Nat → Option Int) (q : Nat), Off2 p s H H' → (s' = s ∨ H s' = none) → Hs C H' p M s' n' f' (offG gs g) → q < n → f q = some g → Q (.int q) H'))
def sp_law_at (K : PySem.W.Frag) (C : Cs) : Sp := fun vs H Q _ => ∃ (a : Addr) (n : Nat) (f : Nat → Option Int) (gs : List Int) (g : Int) (q : Nat), vs = [.ref a, .int g] ∧ SqL K H a (row n f) ∧ Seat n f gs ∧ 1 ≤ n ∧ q < n ∧ Ring.Loc n (hm n) f g q ∧ Q (if f q = some g then .int q else .non) H
def sp_law_numbers (K : PySem.W.Frag) (C : Cs) : Sp := fun vs H Q _ => ∃ (a b : Addr) (ys : List Int), vs = [.ref a, .ref b] ∧ H a = some (.lst (ys.map V.int)) ∧ H b = some (.lst (ys.map V.int)) ∧ ∀ H', Same H H' → Q (.bl true) H'
/-- a pair that is held, of new things -/
def Kp (old H : Hp) (v : V) : Prop := ∃ (w a b : Addr) (xs : List V), v = .ref w ∧ old w = none ∧ old a = none ∧ old b = none ∧ H w = some (.lst [.ref a, .ref b]) ∧ H a = some (.lst xs) ∧ H b = some (.lst xs) ∧ xs.all flD = true
theorem Kp.to {old H H' : Hp} {v : V} (k : Kp old H v) (e : ∀ b o, old b = none → H b = some o → H' b = some o) : Kp old H' v := by
  obtain ⟨w, a, b, xs, rfl, n1, n2, n3, h1, h2, h3, f⟩ := k
  exact ⟨w, a, b, xs, rfl, n1, n2, n3, e _ _ n1 h1, e _ _ n2 h2, e _ _ n3 h3, f⟩
theorem Kp.old {old old' H : Hp} {v : V} (k : Kp old H v) (e : Same old' old) : Kp old' H v := by
  obtain ⟨w, a, b, xs, rfl, n1, n2, n3, h⟩ := k
  exact ⟨w, a, b, xs, rfl, e.free n1, e.free n2, e.free n3, h⟩
theorem kp_mk {old H : Hp} {w a b : Addr} {xs : List V} (n1 : old w = none) (n2 : old a = none) (n3 : old b = none) (h1 : H w = some (.lst [.ref a, .ref b])) (h2 : H a = some (.lst xs)) (h3 : H b = some (.lst xs)) (f : xs.all flD = true) : Kp old H (.ref w) :=
  ⟨w, a, b, xs, rfl, n1, n2, n3, h1, h2, h3, f⟩
theorem kp_push {old H : Hp} {h : Addr} {hs ws : List V} {o : HO} (hh : old h = some o) (hw : ∀ w ∈ ws, Kp old H w) : ∀ w ∈ ws, Kp old (upd H h (.lst hs)) w := fun w z => (hw w z).to fun b o' hb ho => by
  rw [upd_ne (fun e => by rw [e, hh] at hb; cases hb)]; exact ho
def sp_law_look (K : PySem.W.Frag) (C : Cs) : Sp := fun vs H Q _ => ∃ (p d h : Addr) (M : Nat) (s : Addr) (n : Nat) (f : Nat → Option Int) (gs : List Int) (g t : Int) (hs : List V), vs = [.ref p, .ref d, .int g, .int t, .ref h] ∧ Hs C H p M s n f gs ∧ H d = some (.dK (dG gs)) ∧ gs.length < 64 ∧ isG (.int g) = true ∧ 0 ≤ t ∧ t < 4 ∧ H h = some (.lst hs) ∧ h ≠ s ∧ hs.length ≤ 1000 ∧
  ∀ (H' : Hp) (ws : List V), Off h H H' → H' h = some (.lst (hs ++ ws)) → ws.length ≤ 5 → (∀ w ∈ ws, Kp H H' w) → Q (.bl true) H'
def Off3 (p s d : Addr) (H H' : Hp) : Prop := ∀ b o, b ≠ p → b ≠ s → b ≠ d → H b = some o → H' b = some o
def sp_law_deed (K : PySem.W.Frag) (C : Cs) : Sp := fun vs H Q _ => ∃ (p d : Addr) (M : Nat) (s : Addr) (n : Nat) (f : Nat → Option Int) (gs : List Int) (g : Int) (b : Bool), vs = [.ref p, .ref d, .int M, .int g, .bl b] ∧ Hs C H p M s n f gs ∧ H d = some (.dK (dG gs)) ∧ isG (.int g) = true ∧
  ∀ (H' : Hp) (s' : Addr) (n' : Nat) (f' : Nat → Option Int) (gs' : List Int), Off3 p s d H H' → (s' = s ∨ H s' = none) → Hs C H' p M s' n' f' gs' → H' d = some (.dK (dG gs')) → gs'.length ≤ gs.length + 1 → (∀ x ∈ gs', isG (.int x) = true) → Q (.bl true) H'
def sp_law0 (K : PySem.W.Frag) : Sp := fun vs H Q _ => ∃ (a : Addr) (ns : List Int), vs = [.ref a] ∧ SqL K H a (ns.map V.int) ∧ ns.length ≤ 63 ∧ ∀ H', Q (.bl true) H'
def sp_law (K : PySem.W.Frag) (C : Cs) : Sp := sp_law0 K
/-- for i, x in enumerate(xs), xs made in the head -/
theorem for_enumA {K : PySem.W.Frag} {ta : TA} {g : TG} {tb : TS} {D : Ends} {σ : L2.St} {H : Hp} (P : Addr → List V → Hp → Prop) (hta : ∀ R : List V → Hp → Prop, (∀ a xs H', P a xs H' → R [.ref a] H') → ta σ H R)
    (hb : ∀ a xs H', P a xs H' → SqL K H' a xs ∧ ∃ Pv : Nat → L2.St → Hp → Prop, Pv 0 σ H' ∧ (∀ i σ H, Pv i σ H → SqL K H a xs) ∧
      (∀ i x σ H, xs[i]? = some x → Pv i σ H → ∀ T, H T = none → g (.ref T) σ (upd H T (.tup [.int (i : Nat), x])) fun σ2 H2 => tb { D with nx := Pv (i + 1), ct := Pv (i + 1), bk := D.nx } σ2 H2) ∧ (∀ σ H, Pv xs.length σ H → D.nx σ H)) : tFor (iEnum K ta) g tb D σ H :=
  hta _ fun a xs H' p => by
    obtain ⟨hx, Pv, h0, hl, hs, hd⟩ := hb a xs H' p
    exact for_enum (ta := fun _ _ R => R [.ref a] H') (H := H) (fun R r => r) hx Pv h0 hl hs hd
def up {α : Type} (F : Nat → α) (i : Nat) (v : α) : Nat → α := fun x => if x = i then v else F x
theorem up_same {α : Type} {F : Nat → α} {i : Nat} {v : α} : up F i v i = v := if_pos rfl
theorem up_ne {α : Type} {F : Nat → α} {i j : Nat} {v : α} (h : j ≠ i) : up F i v j = F j := if_neg h
/-- a pair that is held, off what changes -/
def Kb (ban : Addr → Prop) (H : Hp) (v : V) : Prop := ∃ (w a b : Addr) (xs : List V), v = .ref w ∧ ¬ ban w ∧ ¬ ban a ∧ ¬ ban b ∧ H w = some (.lst [.ref a, .ref b]) ∧ H a = some (.lst xs) ∧ H b = some (.lst xs) ∧ xs.all flD = true
theorem Kb.to {ban ban' : Addr → Prop} {H H' : Hp} {v : V} (k : Kb ban H v) (e : ∀ b xs, ¬ ban b → H b = some (.lst xs) → H' b = some (.lst xs) ∧ ¬ ban' b) : Kb ban' H' v := by
  obtain ⟨w, a, b, xs, rfl, n1, n2, n3, h1, h2, h3, f⟩ := k
  exact ⟨w, a, b, xs, rfl, (e _ _ n1 h1).2, (e _ _ n2 h2).2, (e _ _ n3 h3).2, (e _ _ n1 h1).1, (e _ _ n2 h2).1, (e _ _ n3 h3).1, f⟩
theorem Kb.of {ban : Addr → Prop} {old H : Hp} {v : V} (k : Kp old H v) (e : ∀ b, old b = none → ¬ ban b) : Kb ban H v := by
  obtain ⟨w, a, b, xs, rfl, n1, n2, n3, h⟩ := k
  exact ⟨w, a, b, xs, rfl, e _ n1, e _ n2, e _ n3, h⟩
/-- two houses, who is there, what is held; fx: lists that stay -/
structure Lw (C : Cs) (H : Hp) (fx : List (Addr × List V)) (h : Addr) (p d s : Nat → Addr) (M n : Nat → Nat) (f : Nat → Nat → Option Int) (gs : Nat → List Int) (hs : List V) (N L : Nat) : Prop where
  fx : ∀ q ∈ fx, H q.1 = some (.lst q.2) ∧ q.1 ≠ h ∧ ∀ i, i < 2 → q.1 ≠ s i
  hh : H h = some (.lst hs)
  hH : ∀ i, i < 2 → Hs C H (p i) (M i) (s i) (n i) (f i) (gs i)
  hd : ∀ i, i < 2 → H (d i) = some (.dK (dG (gs i)))
  gl : ∀ i, i < 2 → (gs i).length ≤ N
  hl : hs.length ≤ L
  kb : ∀ v ∈ hs, Kb (fun b => b = h ∨ ∃ i, i < 2 ∧ b = s i) H v
  nh : ∀ i, i < 2 → h ≠ s i
  np : ∀ i j, i < 2 → j < 2 → i ≠ j → p i ≠ p j
  nd : ∀ i j, i < 2 → j < 2 → i ≠ j → d i ≠ d j
  ns : ∀ i j, i < 2 → j < 2 → i ≠ j → s i ≠ s j
section
variable {C : Cs} {H H' : Hp} {fx : List (Addr × List V)} {h : Addr} {p d s : Nat → Addr} {M n : Nat → Nat} {f : Nat → Nat → Option Int} {gs : Nat → List Int} {hs : List V} {N L : Nat}
theorem Lw.same (l : Lw C H fx h p d s M n f gs hs N L) (e : Same H H') : Lw C H' fx h p d s M n f gs hs N L :=
  ⟨fun q z => ⟨e _ _ (l.fx q z).1, (l.fx q z).2⟩, e _ _ l.hh, fun i hi => (l.hH i hi).same e, fun i hi => e _ _ (l.hd i hi), l.gl, l.hl, fun v hv => (l.kb v hv).to fun b xs nb hb => ⟨e _ _ hb, nb⟩, l.nh, l.np, l.nd, l.ns⟩
theorem Lw.more {N' L' : Nat} (l : Lw C H fx h p d s M n f gs hs N L) (hN : N ≤ N') (hL : L ≤ L') : Lw C H fx h p d s M n f gs hs N' L' :=
  ⟨l.fx, l.hh, l.hH, l.hd, fun i hi => Nat.le_trans (l.gl i hi) hN, Nat.le_trans l.hl hL, l.kb, l.nh, l.np, l.nd, l.ns⟩
theorem Lw.look {ws : List V} (l : Lw C H fx h p d s M n f gs hs N L) (o : Off h H H') (hh : H' h = some (.lst (hs ++ ws))) (hw : ws.length ≤ 5) (kp : ∀ w ∈ ws, Kp H H' w) : Lw C H' fx h p d s M n f gs (hs ++ ws) N (L + 5) := by
  refine ⟨fun q z => ⟨o _ _ (l.fx q z).2.1 (l.fx q z).1, (l.fx q z).2⟩, hh, fun i hi => ?_, fun i hi => o _ _ (fun z => ?_) (l.hd i hi), l.gl, ?_, fun v hv => ?_, l.nh, l.np, l.nd, l.ns⟩
  · have x := l.hH i hi
    obtain ⟨dx, hp⟩ := x.hp
    exact ⟨⟨⟨dx, o _ _ (fun z => by rw [z, l.hh] at hp; cases hp) hp⟩, o _ _ (l.nh i hi).symm x.hs, x.S, x.n2, x.n3⟩, x.rm, x.lM, x.M3⟩
  · have := l.hd i hi
    rw [z, l.hh] at this; cases this
  · rw [List.length_append]; have := l.hl; omega
  · rcases List.mem_append.mp hv with hv | hv
    · exact (l.kb v hv).to fun b xs nb hb => ⟨o _ _ (fun z => nb (.inl z)) hb, nb⟩
    · refine Kb.of (kp v hv) fun b hb => ?_
      rintro (rfl | ⟨i, hi, rfl⟩)
      · rw [l.hh] at hb; cases hb
      · rw [(l.hH i hi).hs] at hb; cases hb
theorem Lw.deed {i : Nat} {s' : Addr} {n' : Nat} {f' : Nat → Option Int} {gs' : List Int} (l : Lw C H fx h p d s M n f gs hs N L) (hi : i < 2) (o : Off3 (p i) (s i) (d i) H H') (hs' : s' = s i ∨ H s' = none) (x : Hs C H' (p i) (M i) s' n' f' gs') (hd : H' (d i) = some (.dK (dG gs'))) (hl : gs'.length ≤ (gs i).length + 1) :
    Lw C H' fx h p d (up s i s') M (up n i n') (up f i f') (up gs i gs') hs (N + 1) L := by
  obtain ⟨dx, hp⟩ := (l.hH i hi).hp
  have hdi := l.hd i hi
  have keep : ∀ b xs, b ≠ s i → H b = some (.lst xs) → H' b = some (.lst xs) := fun b xs hb e => o _ _ (fun z => by rw [z, hp] at e; cases e) hb (fun z => by rw [z, hdi] at e; cases e) e
  have new : ∀ b ob, b ≠ s i → H b = some ob → b ≠ s' := fun b ob hb e z => by
    rcases hs' with w | w
    · exact hb (z.trans w)
    · rw [← z, e] at w; cases w
  have ns' : ∀ b ob, (∀ j, j < 2 → b ≠ s j) → H b = some ob → ∀ j, j < 2 → b ≠ up s i s' j := fun b ob hb e j hj => by
    by_cases z : j = i
    · subst z; rw [up_same]; exact new b ob (hb j hj) e
    · rw [up_ne z]; exact hb j hj
  refine ⟨fun q z => ⟨keep _ _ ((l.fx q z).2.2 i hi) (l.fx q z).1, (l.fx q z).2.1, ns' _ _ (l.fx q z).2.2 (l.fx q z).1⟩, keep _ _ (l.nh i hi) l.hh, fun j hj => ?_, fun j hj => ?_, fun j hj => ?_, l.hl, fun v hv => ?_, ns' _ _ l.nh l.hh, l.np, l.nd, fun a b ha hb hab => ?_⟩
  · by_cases z : j = i
    · subst z; rw [up_same, up_same, up_same, up_same]; exact x
    · rw [up_ne z, up_ne z, up_ne z, up_ne z]
      have y := l.hH j hj
      obtain ⟨dy, hpy⟩ := y.hp
      exact ⟨⟨⟨dy, o _ _ (l.np j i hj hi z) (fun w => by rw [w, (l.hH i hi).hs] at hpy; cases hpy) (fun w => by rw [w, hdi] at hpy; cases hpy) hpy⟩, keep _ _ (l.ns j i hj hi z) y.hs, y.S, y.n2, y.n3⟩, y.rm, y.lM, y.M3⟩
  · by_cases z : j = i
    · subst z; rw [up_same]; exact hd
    · rw [up_ne z]
      have hdj := l.hd j hj
      exact o _ _ (fun w => by rw [w, hp] at hdj; cases hdj) (fun w => by rw [w, (l.hH i hi).hs] at hdj; cases hdj) (l.nd j i hj hi z) hdj
  · by_cases z : j = i
    · subst z; rw [up_same]; have := l.gl j hj; omega
    · rw [up_ne z]; have := l.gl j hj; omega
  · refine (l.kb v hv).to fun b xs nb hb => ⟨keep _ _ (fun z => nb (.inr ⟨i, hi, z⟩)) hb, ?_⟩
    rintro (z | ⟨j, hj, z⟩)
    · exact nb (.inl z)
    · exact ns' b _ (fun j hj z => nb (.inr ⟨j, hj, z⟩)) hb j hj z
  · by_cases za : a = i
    · subst za
      rw [up_same, up_ne (fun z => hab z.symm)]
      exact fun z => new _ _ (l.ns b a hb ha (fun z => hab z.symm)) (l.hH b hb).hs z.symm
    · rw [up_ne za]
      by_cases zb : b = i
      · subst zb
        rw [up_same]
        exact new _ _ (l.ns a b ha hb hab) (l.hH a ha).hs
      · rw [up_ne zb]; exact l.ns a b ha hb hab
end
theorem two_ne {x : Nat → Addr} (h : x 0 ≠ x 1) (i j : Nat) (hi : i < 2) (hj : j < 2) (hij : i ≠ j) : x i ≠ x j := by
  have : (i = 0 ∧ j = 1) ∨ (i = 1 ∧ j = 0) := by omega
  rcases this with ⟨rfl, rfl⟩ | ⟨rfl, rfl⟩
  · exact h
  · exact h.symm
theorem two_at {x : Nat → V} {i : Nat} (hi : i < 2) : atI [x 0, x 1] (i : Int) = some (x i) := by
  have : i = 0 ∨ i = 1 := by omega
  rcases this with rfl | rfl <;> rfl
end RS
namespace RS
open PySem PySem.Spec PyProof.Rows L2
def t_is_guest (K : PySem.W.Frag) (C : Cs) (E : XK) : TS :=
  (tSeq (tIfS (tOr (tNot (tB (tCB (rIsA .int) (tCons (tVar 0) (tCons (tC (.ty "int")) tNil))))) (tB (tCB (rIsA .bool) (tCons (tVar 0) (tCons (tC (.ty "bool")) tNil))))) (tRet (tC (.bl false))) tNext)
    (tRet (tAndV (tOp rLe (tC (.int 0)) (tVar 0)) (tOp rLt (tVar 0) (tC (.int 1000000000000000000000000000000000000000000000000000000000000))))))
def t_home (K : PySem.W.Frag) (C : Cs) (E : XK) : TS :=
  (tRet (tOp rMod (tOp rMod (tOp rAdd (tOp rMul (tVar 0) (tC (.int 40503))) (tOp rFdv (tVar 0) (tC (.int 65536)))) (tC (.int 65536))) (tVar 1)))
def t_carried (K : PySem.W.Frag) (C : Cs) (E : XK) : TS :=
  (tRet (tOp rMod (tOp rSub (tVar 1) (tCall (sp_home K C) [] E0 (tCons (tVar 0) (tCons (tVar 2) tNil)))) (tVar 2)))
def t_ahead (K : PySem.W.Frag) (C : Cs) (E : XK) : TS :=
  (tSeq (tAsg (tCall (sp_carried K C) [] E0 (tCons (tVar 0) (tCons (tVar 2) (tCons (tVar 3) tNil)))) (gName 4))
    (tSeq (tAsg (tCall (sp_carried K C) [] E0 (tCons (tVar 1) (tCons (tVar 2) (tCons (tVar 3) tNil)))) (gName 5))
    (tSeq (tIfS (tTest (tOp rNe (tVar 4) (tVar 5))) (tRet (tOp rGt (tVar 4) (tVar 5))) tNext)
    (tRet (tOp rLt (tVar 0) (tVar 1))))))
def t_room_b1 (K : PySem.W.Frag) (C : Cs) (E : XK) : TS :=
  (tAsg (tOp rMul (tC (.int 2)) (tVar 1)) (gName 1))
def t_room (K : PySem.W.Frag) (C : Cs) (E : XK) : TS :=
  (tSeq (tAsg (tC (.int 8)) (gName 1))
    (tSeq (tWhile (tTest (tOp rGt (tOp rMul (tC (.int 4)) (tVar 0)) (tOp rMul (tC (.int 3)) (tVar 1)))) (t_room_b1 K C E))
    (tRet (tVar 1))))
def t_look_for_b1 (K : PySem.W.Frag) (C : Cs) (E : XK) : TS :=
  (tSeq (tAsg (tOp rMod (tOp rAdd (tVar 3) (tC (.int 1))) (tVar 2)) (gName 3))
    (tAsg (tOp rAdd (tVar 4) (tC (.int 1))) (gName 4)))
def t_look_for (K : PySem.W.Frag) (C : Cs) (E : XK) : TS :=
  (tSeq (tIfS (tNot (tB (tCall (sp_is_guest K C) [] E0 (tCons (tVar 1) tNil)))) (fun _ _ H => E (.ref C.cNoGuest) none H) tNext)
    (tSeq (tAsg (tCB (rLenS K) (tCons (tVar 0) tNil)) (gName 2))
    (tSeq (tAsg (tCall (sp_home K C) [] E0 (tCons (tVar 1) (tCons (tVar 2) tNil))) (gName 3))
    (tSeq (tAsg (tC (.int 1)) (gName 4))
    (tSeq (tWhile (tAnd (tB (tNotN (tOp (rIxL K) (tVar 0) (tVar 3)))) (tB (tCall (sp_ahead K C) [] E0 (tCons (tOp (rIxL K) (tVar 0) (tVar 3)) (tCons (tVar 1) (tCons (tVar 3) (tCons (tVar 2) tNil))))))) (t_look_for_b1 K C E))
    (tRet (tTup (tCons (tVar 3) (tCons (tVar 4) tNil)))))))))
def t_place_of (K : PySem.W.Frag) (C : Cs) (E : XK) : TS :=
  (tSeq (tAsg (tOp (rIxT K) (tCall (sp_look_for K C) [] E (tCons (tVar 0) (tCons (tVar 1) tNil))) (tC (.int 0))) (gName 2))
    (tSeq (tIfS (tTest (tOp rEq (tOp (rIxL K) (tVar 0) (tVar 2)) (tVar 1))) (tRet (tVar 2)) tNext)
    (tRet (tC .non))))
def t_take_seat_b1 (K : PySem.W.Frag) (C : Cs) (E : XK) : TS :=
  (tSeq (tAsg (tOp (rIxL K) (tVar 0) (tVar 2)) (gName 4))
    (tSeq (tAsg (tVar 1) (gSub (tVar 0) (tVar 2) rSetL))
    (tSeq (tAsg (tVar 4) (gName 1))
    (tAsg (tOp rMod (tOp rAdd (tVar 2) (tC (.int 1))) (tCB (rLenS K) (tCons (tVar 0) tNil))) (gName 2)))))
def t_take_seat (K : PySem.W.Frag) (C : Cs) (E : XK) : TS :=
  (tSeq (tAsg (tOp (rIxT K) (tCall (sp_look_for K C) [] E (tCons (tVar 0) (tCons (tVar 1) tNil))) (tC (.int 0))) (gName 2))
    (tSeq (tAsg (tVar 2) (gName 3))
    (tSeq (tWhile (tB (tNotN (tVar 1))) (t_take_seat_b1 K C E))
    (tRet (tVar 3)))))
def t_leave_seat_b1 (K : PySem.W.Frag) (C : Cs) (E : XK) : TS :=
  (tSeq (tAsg (tOp (rIxL K) (tVar 0) (tVar 3)) (gSub (tVar 0) (tVar 1) rSetL))
    (tSeq (tAsg (tVar 3) (gName 1))
    (tAsg (tOp rMod (tOp rAdd (tVar 1) (tC (.int 1))) (tVar 2)) (gName 3))))
def t_leave_seat (K : PySem.W.Frag) (C : Cs) (E : XK) : TS :=
  (tSeq (tAsg (tCB (rLenS K) (tCons (tVar 0) tNil)) (gName 2))
    (tSeq (tAsg (tOp rMod (tOp rAdd (tVar 1) (tC (.int 1))) (tVar 2)) (gName 3))
    (tSeq (tWhile (tAnd (tB (tNotN (tOp (rIxL K) (tVar 0) (tVar 3)))) (tTest (tOp rGt (tCall (sp_carried K C) [] E0 (tCons (tOp (rIxL K) (tVar 0) (tVar 3)) (tCons (tVar 3) (tCons (tVar 2) tNil)))) (tC (.int 0))))) (t_leave_seat_b1 K C E))
    (tAsg (tC .non) (gSub (tVar 0) (tVar 1) rSetL)))))
def t_looked_through_b1 (K : PySem.W.Frag) (C : Cs) (E : XK) : TS :=
  (tIfS (tNot (tB (tCall (sp_is_guest K C) [] E0 (tCons (tVar 2) tNil)))) (fun _ _ H => E (.ref C.cNoGuest) none H) tNext)
def t_looked_through (K : PySem.W.Frag) (C : Cs) (E : XK) : TS :=
  (tSeq (tFor (iList K (tVar 0)) (gName 2) (t_looked_through_b1 K C E))
    (tSeq (tIfS (tTest (tOp rLt (tLenSet K (tVar 0)) (tCB (rLenS K) (tCons (tVar 0) tNil)))) (fun _ _ H => E (.ref C.cTwice) none H) tNext)
    (tIfS (tTest (tOp rGe (tCB (rLenS K) (tCons (tVar 0) tNil)) (tVar 1))) (fun _ _ H => E (.ref C.cFull) none H) tNext)))
def t_seated_b1 (K : PySem.W.Frag) (C : Cs) (E : XK) : TS :=
  (tDrop (tCall (sp_take_seat K C) [] E (tCons (tVar 2) (tCons (tVar 3) tNil))))
def t_seated (K : PySem.W.Frag) (C : Cs) (E : XK) : TS :=
  (tSeq (tDrop (tCall (sp_looked_through K C) [] E (tCons (tVar 0) (tCons (tVar 1) tNil))))
    (tSeq (tAsg (tOp rRep (tLst (tCons (tC .non) tNil)) (tVar 1)) (gName 2))
    (tSeq (tFor (iList K (tVar 0)) (gName 3) (t_seated_b1 K C E))
    (tRet (tVar 2)))))
def t_House_init (K : PySem.W.Frag) (C : Cs) (E : XK) : TS :=
  (tSeq (tIfS (tOr (tNot (tB (tCB (rIsA .int) (tCons (tVar 1) (tCons (tC (.ty "int")) tNil))))) (tOr (tB (tCB (rIsA .bool) (tCons (tVar 1) (tCons (tC (.ty "bool")) tNil)))) (tOr (tTest (tOp rLt (tVar 1) (tC (.int 0)))) (tTest (tOp rGt (tVar 1) (tC (.int 192))))))) (fun _ _ H => E (.ref C.cNoSize) none H) tNext)
    (tSeq (sFld K (tVar 0) (tVar 1) "most")
    (sFld K (tVar 0) (tOp rRep (tLst (tCons (tC .non) tNil)) (tCall (sp_room K C) [] E0 (tCons (tC (.int 0)) tNil))) "seats")))
def t_House_come (K : PySem.W.Frag) (C : Cs) (E : XK) : TS :=
  (tSeq (tIfS (tB (tNotN (tCall (sp_place_of K C) [] E (tCons (tFld K (tVar 0) "seats") (tCons (tVar 1) tNil))))) (fun _ _ H => E (.ref C.cTwice) none H) tNext)
    (tSeq (tIfS (tTest (tOp rGe (tMeth C.cHouse "many" (sp_House_many K C) [] E0 (tVar 0) tNil) (tFld K (tVar 0) "most"))) (fun _ _ H => E (.ref C.cFull) none H) tNext)
    (tSeq (tAsg (tCall (sp_room K C) [] E0 (tCons (tOp rAdd (tMeth C.cHouse "many" (sp_House_many K C) [] E0 (tVar 0) tNil) (tC (.int 1))) tNil)) (gName 2))
    (tSeq (tIfS (tTest (tOp rNe (tVar 2) (tCB (rLenS K) (tCons (tFld K (tVar 0) "seats") tNil)))) (sFld K (tVar 0) (tCall (sp_seated K C) [] E (tCons (tMeth C.cHouse "guests" (sp_House_guests K C) [] E0 (tVar 0) tNil) (tCons (tVar 2) tNil))) "seats") tNext)
    (tRet (tCall (sp_take_seat K C) [] E (tCons (tFld K (tVar 0) "seats") (tCons (tVar 1) tNil))))))))
def t_House_go (K : PySem.W.Frag) (C : Cs) (E : XK) : TS :=
  (tSeq (tAsg (tCall (sp_place_of K C) [] E (tCons (tFld K (tVar 0) "seats") (tCons (tVar 1) tNil))) (gName 2))
    (tSeq (tIfS (tB (tIsN (tVar 2))) (fun _ _ H => E (.ref C.cAway) none H) tNext)
    (tSeq (tDrop (tCall (sp_leave_seat K C) [] E0 (tCons (tFld K (tVar 0) "seats") (tCons (tVar 2) tNil))))
    (tSeq (tAsg (tCall (sp_room K C) [] E0 (tCons (tMeth C.cHouse "many" (sp_House_many K C) [] E0 (tVar 0) tNil) tNil)) (gName 3))
    (tSeq (tIfS (tTest (tOp rNe (tVar 3) (tCB (rLenS K) (tCons (tFld K (tVar 0) "seats") tNil)))) (sFld K (tVar 0) (tCall (sp_seated K C) [] E (tCons (tMeth C.cHouse "guests" (sp_House_guests K C) [] E0 (tVar 0) tNil) (tCons (tVar 3) tNil))) "seats") tNext)
    (tRet (tVar 2)))))))
def t_House_seat_of (K : PySem.W.Frag) (C : Cs) (E : XK) : TS :=
  (tRet (tCall (sp_place_of K C) [] E (tCons (tFld K (tVar 0) "seats") (tCons (tVar 1) tNil))))
def t_House_row (K : PySem.W.Frag) (C : Cs) (E : XK) : TS :=
  (tRet (tCB (rListS K) (tCons (tFld K (tVar 0) "seats") tNil)))
def t_House_guests (K : PySem.W.Frag) (C : Cs) (E : XK) : TS :=
  (tRet (tCB (rSortedI K) (tCons (tLc (iList K (tFld K (tVar 0) "seats")) (gName 1) (tB (tNotN (tVar 1))) (tVar 1) [1]) tNil)))
def t_House_many (K : PySem.W.Frag) (C : Cs) (E : XK) : TS :=
  (tRet (tOp rSub (tCB (rLenS K) (tCons (tFld K (tVar 0) "seats") tNil)) (tBM K "list" (rCount K) (tFld K (tVar 0) "seats") (tCons (tC .non) tNil))))
def t_law_cell_at (K : PySem.W.Frag) (C : Cs) (E : XK) : TS :=
  (tSeq (tIfS (tTest (tOp rLt (tVar 1) (tCB (rLenS K) (tCons (tVar 0) tNil)))) (tRet (tOp (rIxL K) (tVar 0) (tVar 1))) tNext)
    (tRet (tC (.int 0))))
def t_law_whole (K : PySem.W.Frag) (C : Cs) (E : XK) : TS :=
  (tRet (tAndV (tCB (rIsA .int) (tCons (tVar 0) (tCons (tC (.ty "int")) tNil))) (tNotV (tCB (rIsA .bool) (tCons (tVar 0) (tCons (tC (.ty "bool")) tNil))))))
def t_law_home (K : PySem.W.Frag) (C : Cs) (E : XK) : TS :=
  (tRet (tOp rMod (tOp rMod (tOp rAdd (tOp rMul (tVar 0) (tC (.int 40503))) (tOp rFdv (tVar 0) (tC (.int 65536)))) (tC (.int 65536))) (tVar 1)))
def t_law_base (K : PySem.W.Frag) (C : Cs) (E : XK) : TS :=
  (tSeq (tIfS (tTest (tOp rEq (tOp rMod (tVar 0) (tC (.int 2))) (tC (.int 0)))) (tRet (tOp rMod (tOp rFdv (tVar 0) (tC (.int 2))) (tC (.int 10000000000000000000000000000000000000000000000000000000000)))) tNext)
    (tRet (tOp rMod (tOp rFdv (tVar 0) (tC (.int 2))) (tC (.int 70001)))))
def t_law_guest (K : PySem.W.Frag) (C : Cs) (E : XK) : TS :=
  (tSeq (tAsg (tOp rFdv (tVar 0) (tC (.int 5))) (gName 2))
    (tSeq (tIfS (tTest (tOp rEq (tOp rMod (tVar 0) (tC (.int 5))) (tC (.int 0)))) (tRet (tOp rMod (tVar 2) (tC (.int 1000000000000000000000000000000000000000000000000000000000000)))) tNext)
    (tSeq (tIfS (tTest (tOp rEq (tOp rMod (tVar 0) (tC (.int 5))) (tC (.int 1)))) (tRet (tOp rMod (tVar 2) (tC (.int 400)))) tNext)
    (tSeq (tIfS (tTest (tOp rEq (tOp rMod (tVar 0) (tC (.int 5))) (tC (.int 2)))) (tRet (tOp rAdd (tVar 1) (tOp rMul (tC (.int 4294967296)) (tOp rMod (tVar 2) (tC (.int 10000000000000000000000000000000000000000)))))) tNext)
    (tSeq (tIfS (tTest (tOp rEq (tOp rMod (tVar 0) (tC (.int 5))) (tC (.int 3)))) (tRet (tOp rAdd (tVar 1) (tOp rMul (tC (.int 65536)) (tOp rMod (tVar 2) (tC (.int 12)))))) tNext)
    (tRet (tOp rAdd (tOp rAdd (tVar 1) (tOp rMul (tC (.int 65536)) (tOp rMod (tVar 2) (tC (.int 3))))) (tOp rMul (tC (.int 4294967296)) (tOp rMod (tOp rFdv (tVar 2) (tC (.int 3))) (tC (.int 7)))))))))))
def t_law_room_b1 (K : PySem.W.Frag) (C : Cs) (E : XK) : TS :=
  (tAsg (tOp rMul (tVar 1) (tC (.int 2))) (gName 1))
def t_law_room (K : PySem.W.Frag) (C : Cs) (E : XK) : TS :=
  (tSeq (tAsg (tC (.int 8)) (gName 1))
    (tSeq (tWhile (tTest (tOp rGt (tOp rMul (tC (.int 4)) (tVar 0)) (tOp rMul (tC (.int 3)) (tVar 1)))) (t_law_room_b1 K C E))
    (tRet (tVar 1))))
def t_law_settled_b1 (K : PySem.W.Frag) (C : Cs) (E : XK) : TS :=
  (tIfS (tB (tNotN (tOp (rIxL K) (tVar 0) (tVar 3)))) (tSeq (tIfS (tNot (tB (tCall (sp_law_whole K C) [] E0 (tCons (tOp (rIxL K) (tVar 0) (tVar 3)) tNil)))) (tRet (tC (.bl false))) tNext)
    (tSeq (tAsg (tOp rMod (tOp rSub (tVar 3) (tCall (sp_law_home K C) [] E0 (tCons (tOp (rIxL K) (tVar 0) (tVar 3)) (tCons (tVar 1) tNil)))) (tVar 1)) (gName 4))
    (tSeq (tIfS (tAnd (tTest (tOp rGt (tVar 4) (tC (.int 0)))) (tB (tIsN (tOp (rIxL K) (tVar 0) (tOp rSub (tVar 3) (tC (.int 1))))))) (tRet (tC (.bl false))) tNext)
    (tIfS (tTest (tOp rGt (tVar 4) (tC (.int 0)))) (tSeq (tAsg (tOp rAdd (tOp rMod (tOp rSub (tOp rSub (tVar 3) (tC (.int 1))) (tCall (sp_law_home K C) [] E0 (tCons (tOp (rIxL K) (tVar 0) (tOp rSub (tVar 3) (tC (.int 1)))) (tCons (tVar 1) tNil)))) (tVar 1)) (tC (.int 1))) (gName 5))
    (tIfS (tOr (tTest (tOp rLt (tVar 5) (tVar 4))) (tAnd (tTest (tOp rEq (tVar 5) (tVar 4))) (tTest (tOp rGe (tOp (rIxL K) (tVar 0) (tOp rSub (tVar 3) (tC (.int 1)))) (tOp (rIxL K) (tVar 0) (tVar 3)))))) (tRet (tC (.bl false))) tNext)) tNext)))) tNext)
def t_law_settled (K : PySem.W.Frag) (C : Cs) (E : XK) : TS :=
  (tSeq (tIfS (tOr (tNot (tB (tCB (rIsA .list) (tCons (tVar 0) (tCons (tC (.ty "list")) tNil))))) (tOr (tTest (tOp rNe (tCB (rLenS K) (tCons (tVar 0) tNil)) (tVar 1))) (tTest (tOp (rIn K true) (tC .non) (tVar 0))))) (tRet (tC (.bl false))) tNext)
    (tSeq (tFor (iRng1 (tCons (tVar 1) tNil)) (gName 3) (t_law_settled_b1 K C E))
    (tRet (tOp (rEqD K) (tCB (rSortedI K) (tCons (tLc (iList K (tVar 0)) (gName 6) (tB (tNotN (tVar 6))) (tVar 6) [6]) tNil)) (tCB (rSortedI K) (tCons (tVar 2) tNil))))))
def t_law_most (K : PySem.W.Frag) (C : Cs) (E : XK) : TS :=
  (tSeq (tIfS (tTest (tOp rEq (tOp rMod (tVar 0) (tC (.int 3))) (tC (.int 0)))) (tRet (tC (.int 96))) tNext)
    (tSeq (tIfS (tTest (tOp rEq (tOp rMod (tVar 0) (tC (.int 3))) (tC (.int 1)))) (tRet (tOp rAdd (tC (.int 3)) (tOp rMod (tOp rFdv (tVar 0) (tC (.int 3))) (tC (.int 20))))) tNext)
    (tRet (tOp rMod (tOp rFdv (tVar 0) (tC (.int 3))) (tC (.int 193))))))
def t_law_house (K : PySem.W.Frag) (C : Cs) (E : XK) : TS :=
  (tSeq (tIfS (tTest (tOp rEq (tOp rMod (tVar 0) (tC (.int 3))) (tC (.int 0)))) (tRet (tMake C.cHouse (sp_House_init K C) [.int 96] E0 tNil)) tNext)
    (tRet (tMake C.cHouse (sp_House_init K C) [] E0 (tCons (tCall (sp_law_most K C) [] E0 (tCons (tVar 0) tNil)) tNil))))
def t_law_done_b1_try (K : PySem.W.Frag) (C : Cs) (E : XK) : WX → TS :=
  fun W => (tSeq (tIfS (tB (tVar 2)) (tRet (tMethW C.cHouse "come" (sp_House_come K C) (WE W) (tVar 0) (tCons (tVar 1) tNil))) tNext)
    (tRet (tMethW C.cHouse "go" (sp_House_go K C) (WE W) (tVar 0) (tCons (tVar 1) tNil))))
def t_law_done_b1_exc (K : PySem.W.Frag) (C : Cs) (E : XK) : Addr → Value → Option Addr → TS :=
  fun a cls d => (tRet (tLst (tCons (tCB (rIsX C cls d a) (tCons (tVar 3) (tCons (tC (.ref C.cTwice)) tNil))) (tCons (tCB (rIsX C cls d a) (tCons (tVar 3) (tCons (tC (.ref C.cFull)) tNil))) (tCons (tCB (rIsX C cls d a) (tCons (tVar 3) (tCons (tC (.ref C.cAway)) tNil))) tNil)))))
def t_law_done (K : PySem.W.Frag) (C : Cs) (E : XK) : TS :=
  (tTryAs K C 3 (t_law_done_b1_try K C E) (t_law_done_b1_exc K C E) W0)
def t_law_at (K : PySem.W.Frag) (C : Cs) (E : XK) : TS :=
  (tSeq (tIfS (tTest (tOp (rIn K false) (tVar 1) (tVar 0))) (tRet (tBM K "list" (rIndex K) (tVar 0) (tCons (tVar 1) tNil))) tNext)
    (tRet (tC .non)))
def t_law_numbers_b1 (K : PySem.W.Frag) (C : Cs) (E : XK) : TS :=
  (tIfS (tOr (tNot (tB (tCall (sp_law_whole K C) [] E0 (tCons (tVar 2) tNil)))) (tTest (tOp rNe (tVar 2) (tVar 3)))) (tRet (tC (.bl false))) tNext)
def t_law_numbers (K : PySem.W.Frag) (C : Cs) (E : XK) : TS :=
  (tSeq (tIfS (tOr (tNot (tB (tCB (rIsA .list) (tCons (tVar 0) (tCons (tC (.ty "list")) tNil))))) (tTest (tOp rNe (tCB (rLenS K) (tCons (tVar 0) tNil)) (tCB (rLenS K) (tCons (tVar 1) tNil))))) (tRet (tC (.bl false))) tNext)
    (tSeq (tFor (iZip K (tCons (tVar 0) (tCons (tVar 1) tNil))) (gTup K 2 (gCons (gName 2) (gCons (gName 3) gNil))) (t_law_numbers_b1 K C E))
    (tRet (tC (.bl true)))))
def t_law_look_b1 (K : PySem.W.Frag) (C : Cs) (E : XK) : TS :=
  (tSeq (tAsg (tOp rMod (tOp rAdd (tVar 6) (tVar 3)) (tC (.int 4))) (gName 7))
    (tSeq (tIfS (tAnd (tTest (tOp rEq (tVar 7) (tC (.int 0)))) (tTest (tOp (rNeD K) (tMeth C.cHouse "row" (sp_House_row K C) [] E0 (tVar 0) tNil) (tVar 5)))) (tRet (tC (.bl false))) tNext)
    (tSeq (tIfS (tAnd (tTest (tOp rEq (tVar 7) (tC (.int 1)))) (tOr (tNot (tB (tCall (sp_law_whole K C) [] E0 (tCons (tMeth C.cHouse "many" (sp_House_many K C) [] E0 (tVar 0) tNil) tNil)))) (tTest (tOp rNe (tMeth C.cHouse "many" (sp_House_many K C) [] E0 (tVar 0) tNil) (tCB rLenD (tCons (tVar 1) tNil)))))) (tRet (tC (.bl false))) tNext)
    (tSeq (tIfS (tTest (tOp rEq (tVar 7) (tC (.int 2)))) (tSeq (tAsg (tMeth C.cHouse "guests" (sp_House_guests K C) [] E0 (tVar 0) tNil) (gName 8))
    (tSeq (tIfS (tNot (tB (tCall (sp_law_numbers K C) [] E0 (tCons (tVar 8) (tCons (tCB rSortedDI (tCons (tVar 1) tNil)) tNil))))) (tRet (tC (.bl false))) tNext)
    (tDrop (tBM K "list" rAppend (tVar 4) (tCons (tLst (tCons (tVar 8) (tCons (tCB (rListS K) (tCons (tVar 8) tNil)) tNil))) tNil))))) tNext)
    (tIfS (tTest (tOp rEq (tVar 7) (tC (.int 3)))) (tSeq (tAsg (tMeth C.cHouse "seat_of" (sp_House_seat_of K C) [] E0 (tVar 0) (tCons (tVar 2) tNil)) (gName 9))
    (tIfS (tOr (tTest (tOp rNe (tVar 9) (tCall (sp_law_at K C) [] E0 (tCons (tVar 5) (tCons (tVar 2) tNil))))) (tAnd (tB (tNotN (tVar 9))) (tNot (tB (tCall (sp_law_whole K C) [] E0 (tCons (tVar 9) tNil)))))) (tRet (tC (.bl false))) tNext)) tNext)))))
def t_law_look (K : PySem.W.Frag) (C : Cs) (E : XK) : TS :=
  (tSeq (tAsg (tMeth C.cHouse "row" (sp_House_row K C) [] E0 (tVar 0) tNil) (gName 5))
    (tSeq (tIfS (tNot (tB (tCall (sp_law_settled K C) [] E0 (tCons (tVar 5) (tCons (tCall (sp_law_room K C) [] E0 (tCons (tCB rLenD (tCons (tVar 1) tNil)) tNil)) (tCons (tCB rListD (tCons (tVar 1) tNil)) tNil)))))) (tRet (tC (.bl false))) tNext)
    (tSeq (tFor (iRng1 (tCons (tC (.int 4)) tNil)) (gName 6) (t_law_look_b1 K C E))
    (tSeq (tIfS (tTest (tOp rEq (tVar 3) (tC (.int 3)))) (tSeq (tDrop (tBM0 K "list" rClear (tVar 5)))
    (tDrop (tBM K "list" rAppend (tMeth C.cHouse "guests" (sp_House_guests K C) [] E0 (tVar 0) tNil) (tCons (tVar 2) tNil)))) (tDrop (tBM K "list" rAppend (tVar 4) (tCons (tLst (tCons (tVar 5) (tCons (tCB (rListS K) (tCons (tVar 5) tNil)) tNil))) tNil))))
    (tRet (tC (.bl true)))))))
def t_law_deed (K : PySem.W.Frag) (C : Cs) (E : XK) : TS :=
  (tSeq (tAsg (tMeth C.cHouse "row" (sp_House_row K C) [] E0 (tVar 0) tNil) (gName 5))
    (tSeq (tAsg (tCall (sp_law_done K C) [] E0 (tCons (tVar 0) (tCons (tVar 3) (tCons (tVar 4) tNil)))) (gName 6))
    (tSeq (tIfS (tAnd (tB (tVar 4)) (tB (tDIn (tVar 3) (tVar 1)))) (tRet (tAndV (tOp (rEqD K) (tVar 6) (tLst (tCons (tC (.bl true)) (tCons (tC (.bl false)) (tCons (tC (.bl false)) tNil))))) (tOp (rEqD K) (tMeth C.cHouse "row" (sp_House_row K C) [] E0 (tVar 0) tNil) (tVar 5)))) tNext)
    (tSeq (tIfS (tAnd (tB (tVar 4)) (tTest (tOp rGe (tCB rLenD (tCons (tVar 1) tNil)) (tVar 2)))) (tRet (tAndV (tOp (rEqD K) (tVar 6) (tLst (tCons (tC (.bl false)) (tCons (tC (.bl true)) (tCons (tC (.bl false)) tNil))))) (tOp (rEqD K) (tMeth C.cHouse "row" (sp_House_row K C) [] E0 (tVar 0) tNil) (tVar 5)))) tNext)
    (tSeq (tIfS (tAnd (tNot (tB (tVar 4))) (tB (tDNotIn (tVar 3) (tVar 1)))) (tRet (tAndV (tOp (rEqD K) (tVar 6) (tLst (tCons (tC (.bl false)) (tCons (tC (.bl false)) (tCons (tC (.bl true)) tNil))))) (tOp (rEqD K) (tMeth C.cHouse "row" (sp_House_row K C) [] E0 (tVar 0) tNil) (tVar 5)))) tNext)
    (tSeq (tIfS (tNot (tB (tCall (sp_law_whole K C) [] E0 (tCons (tVar 6) tNil)))) (tRet (tC (.bl false))) tNext)
    (tSeq (tIfS (tB (tVar 4)) (tSeq (sDPut (tVar 1) (tVar 3) (tC (.bl true)))
    (tSeq (tAsg (tMeth C.cHouse "row" (sp_House_row K C) [] E0 (tVar 0) tNil) (gName 5))
    (tRet (tAndV (tChain rLe rLt (tC (.int 0)) (tVar 6) (tCB (rLenS K) (tCons (tVar 5) tNil))) (tOp rEq (tOp (rIxL K) (tVar 5) (tVar 6)) (tVar 3)))))) tNext)
    (tSeq (tDrop (tDPop1 (tVar 1) (tVar 3)))
    (tRet (tAndV (tOp rEq (tVar 6) (tBM K "list" (rIndex K) (tVar 5) (tCons (tVar 3) tNil))) (tIsN (tMeth C.cHouse "seat_of" (sp_House_seat_of K C) [] E0 (tVar 0) (tCons (tVar 3) tNil)))))))))))))
def t_law_b1 (K : PySem.W.Frag) (C : Cs) (E : XK) : TS :=
  (tSeq (tAsg (tOp rFdv (tOp rMod (tOp rMod (tOp rMul (tOp rMod (tVar 7) (tC (.int 1000000000000))) (tC (.int 69621))) (tC (.int 2147483647))) (tC (.int 7))) (tC (.int 4))) (gName 8))
    (tSeq (tAsg (tOp rMod (tOp rMul (tOp rMod (tVar 7) (tC (.int 1000000000000))) (tC (.int 48271))) (tC (.int 2147483629))) (gName 9))
    (tSeq (tAsg (tCall (sp_law_guest K C) [] E0 (tCons (tVar 7) (tCons (tVar 1) tNil))) (gName 10))
    (tSeq (tAsg (tCB rSortedDI (tCons (tOp (rIxL K) (tVar 4) (tVar 8)) tNil)) (gName 11))
    (tSeq (tIfS (tAnd (tTest (tOp rLt (tOp rMod (tVar 9) (tC (.int 8))) (tC (.int 2)))) (tTest (tOp rGt (tCB (rLenS K) (tCons (tVar 11) tNil)) (tC (.int 0))))) (tAsg (tOp (rIxL K) (tVar 11) (tOp rMod (tOp rFdv (tVar 9) (tC (.int 64))) (tCB (rLenS K) (tCons (tVar 11) tNil)))) (gName 10)) tNext)
    (tSeq (tAsg (tCall (sp_law_most K C) [] E0 (tCons (tOp (rIxL K) (tVar 2) (tVar 8)) tNil)) (gName 12))
    (tSeq (tIfS (tNot (tB (tCall (sp_law_deed K C) [] E0 (tCons (tOp (rIxL K) (tVar 3) (tVar 8)) (tCons (tOp (rIxL K) (tVar 4) (tVar 8)) (tCons (tVar 12) (tCons (tVar 10) (tCons (tOp rGt (tOp rMod (tVar 9) (tC (.int 8))) (tC (.int 2))) tNil)))))))) (tRet (tC (.bl false))) tNext)
    (tSeq (tAsg (tOp rMod (tOp rAdd (tOp rFdv (tVar 9) (tC (.int 24))) (tVar 6)) (tC (.int 4))) (gName 13))
    (tIfS (tTest (tOp rEq (tOp rMod (tOp rFdv (tVar 9) (tC (.int 8))) (tC (.int 3))) (tC (.int 1)))) (tIfS (tNot (tB (tCall (sp_law_look K C) [] E0 (tCons (tOp (rIxL K) (tVar 3) (tVar 8)) (tCons (tOp (rIxL K) (tVar 4) (tVar 8)) (tCons (tVar 10) (tCons (tVar 13) (tCons (tVar 5) tNil)))))))) (tRet (tC (.bl false))) tNext) tNext)))))))))
def t_law_b2 (K : PySem.W.Frag) (C : Cs) (E : XK) : TS :=
  (tIfS (tNot (tB (tCall (sp_law_look K C) [] E0 (tCons (tOp (rIxL K) (tVar 3) (tVar 8)) (tCons (tOp (rIxL K) (tVar 4) (tVar 8)) (tCons (tVar 1) (tCons (tOp rAdd (tVar 8) (tC (.int 1))) (tCons (tVar 5) tNil)))))))) (tRet (tC (.bl false))) tNext)
def t_law_b3 (K : PySem.W.Frag) (C : Cs) (E : XK) : TS :=
  (tIfS (tTest (tOp (rNeD K) (tVar 14) (tVar 15))) (tRet (tC (.bl false))) tNext)
def t_law (K : PySem.W.Frag) (C : Cs) (E : XK) : TS :=
  (tSeq (tAsg (tCall (sp_law_base K C) [] E0 (tCons (tCall (sp_law_cell_at K C) [] E0 (tCons (tVar 0) (tCons (tC (.int 0)) tNil))) tNil)) (gName 1))
    (tSeq (tAsg (tLst (tCons (tCall (sp_law_cell_at K C) [] E0 (tCons (tVar 0) (tCons (tC (.int 1)) tNil))) (tCons (tCall (sp_law_cell_at K C) [] E0 (tCons (tVar 0) (tCons (tC (.int 2)) tNil))) tNil))) (gName 2))
    (tSeq (tAsg (tLst (tCons (tCall (sp_law_house K C) [] E0 (tCons (tOp (rIxL K) (tVar 2) (tC (.int 0))) tNil)) (tCons (tCall (sp_law_house K C) [] E0 (tCons (tOp (rIxL K) (tVar 2) (tC (.int 1))) tNil)) tNil))) (gName 3))
    (tSeq (tAsg (tLst (tCons tDNewK (tCons tDNewK tNil))) (gName 4))
    (tSeq (tAsg (tLst tNil) (gName 5))
    (tSeq (tFor (iEnum K (tCons (tSl (rSlL K) (tVar 0) (tPart (tC (.int 3))) (tPart (tC (.int 87)))) tNil)) (gTup K 2 (gCons (gName 6) (gCons (gName 7) gNil))) (t_law_b1 K C E))
    (tSeq (tFor (iRng1 (tCons (tC (.int 2)) tNil)) (gName 8) (t_law_b2 K C E))
    (tSeq (tFor (iList K (tVar 5)) (gLst K 2 (gCons (gName 14) (gCons (gName 15) gNil))) (t_law_b3 K C E))
    (tRet (tC (.bl true)))))))))))
end RS
namespace RS
open PySem PySem.Spec PyProof.Rows L2
section
variable {K : PySem.W.Frag} {C : Cs} {vs : List V} {H : Hp} {Q : VK} {E : XK}
theorem len_is_guest (h : sp_is_guest K C vs H Q E) : vs.length = (["thing"] : List Str).length := by
  unfold sp_is_guest at h
  repeat (obtain ⟨_, h⟩ := h)
  subst_vars; rfl
theorem pure_is_guest (XF : Facts K C) (XH : HF K C.cHouse) (h : sp_is_guest K C vs H Q E) : t_is_guest K C E { nx := fun _ H' => Q .non H', rt := Q } (start ["thing"] vs) H := by
  obtain ⟨x, s, rfl, ht, q⟩ := h
  have big : ∀ i : Int, isG (.int i) = (decide (0 ≤ i) && decide (i < 1000000000000000000000000000000000000000000000000000000000000)) := fun _ => rfl
  by_cases hx : ∃ i, x = .int i
  · obtain ⟨i, rfl⟩ := hx
    show tSeq _ _ _ [some (.int i)] H
    rw [big] at q
    walk_at "run"
    by_cases h0 : 0 ≤ i
    · rw [if_pos h0]
      rw [decide_eq_true h0, Bool.true_and] at q
      exact q
    · rw [if_neg h0]
      rw [decide_eq_false h0, Bool.false_and] at q
      exact q
  · have e : isG x = false := by
      cases x with
      | int i => exact absurd ⟨i, rfl⟩ hx
      | _ => rfl
    rw [e] at q
    have hs : ∀ b, (Ty.isA s .int = b) → (b = false ∨ Ty.isA s .bool = true) := by
      intro b hb
      cases x with
      | int i => exact absurd ⟨i, rfl⟩ hx
      | bl b => cases ht; exact .inr rfl
      | non => cases ht; exact .inl hb.symm
      | str z => cases ht; exact .inl hb.symm
      | byt b => cases ht
      | flt b => cases ht
      | ty n => cases ht
      | ref a =>
        have h' : (H a).bind hoTy = some s := ht
        cases e : H a with
        | none => rw [e] at h'; cases h'
        | some o =>
          rw [e] at h'
          have h2 : hoTy o = some s := h'
          cases o with
          | lst xs => cases h2; exact .inl hb.symm
          | tup xs => cases h2; exact .inl hb.symm
          | dK kvs => cases h2; exact .inl hb.symm
          | frz ob u =>
            cases u with
            | lst xs => cases h2; exact .inl hb.symm
            | _ => cases h2
          | _ => cases h2
    show tSeq _ _ _ [some x] H
    refine if_step (b := true) (H' := H) (fun R h => ?_) (fun _ => ?_) (fun e => nomatch e)
    · simp only [tOr, tNot, tB, tCB, tCons, tNil, tVar, tC, rIsA]
      refine ⟨x, rfl, x, s, rfl, ht, s.isA .int, rfl, ?_⟩
      refine iteB (fun _ => h) fun e1 => ?_
      refine ⟨x, rfl, x, s, rfl, ht, s.isA .bool, rfl, ?_⟩
      rcases hs _ rfl with e2 | e2
      · rw [e2] at e1; cases e1
      · rw [e2]; exact h
    · exact q
theorem len_home (h : sp_home K C vs H Q E) : vs.length = (["guest", "many"] : List Str).length := by
  unfold sp_home at h
  repeat (obtain ⟨_, h⟩ := h)
  subst_vars; rfl
theorem pure_home (XF : Facts K C) (XH : HF K C.cHouse) (h : sp_home K C vs H Q E) : t_home K C E { nx := fun _ H' => Q .non H', rt := Q } (start ["guest", "many"] vs) H := by
  obtain ⟨g, n, rfl, h0, q⟩ := h
  show tRet _ _ [some (.int g), some (.int n)] H
  walk_at "run"
  exact ⟨h0, q⟩
theorem len_carried (h : sp_carried K C vs H Q E) : vs.length = (["guest", "at", "many"] : List Str).length := by
  unfold sp_carried at h
  repeat (obtain ⟨_, h⟩ := h)
  subst_vars; rfl
theorem pure_carried (XF : Facts K C) (XH : HF K C.cHouse) (h : sp_carried K C vs H Q E) : t_carried K C E { nx := fun _ H' => Q .non H', rt := Q } (start ["guest", "at", "many"] vs) H := by
  obtain ⟨g, p, n, rfl, h0, q⟩ := h
  show tRet _ _ [some (.int g), some (.int p), some (.int n)] H
  walk_at "run"; unfold sp_home; walk_at "run"
  exact ⟨h0, h0, q⟩
theorem len_ahead (h : sp_ahead K C vs H Q E) : vs.length = (["one", "other", "at", "many"] : List Str).length := by
  unfold sp_ahead at h
  repeat (obtain ⟨_, h⟩ := h)
  subst_vars; rfl
theorem pure_ahead (XF : Facts K C) (XH : HF K C.cHouse) (h : sp_ahead K C vs H Q E) : t_ahead K C E { nx := fun _ H' => Q .non H', rt := Q } (start ["one", "other", "at", "many", "here", "there"] vs) H := by
  obtain ⟨a, b, p, n, rfl, h0, q⟩ := h
  show tSeq _ _ _ [some (.int a), some (.int b), some (.int p), some (.int n), none, none] H
  walk_at "run"; unfold sp_carried; walk_at "run"
  refine ⟨h0, h0, ?_⟩
  by_cases e : farI a p n = farI b p n
  · rw [if_neg (not_not_intro e)]
    rw [show decide (a < b) = aheadI a b p n from decide_eq_decide.mpr ⟨fun h => .inr ⟨e, h⟩, fun h => by omega⟩]
    exact q
  · rw [if_pos e]
    rw [show decide (farI a p n > farI b p n) = aheadI a b p n from decide_eq_decide.mpr ⟨fun h => .inl h, fun h => by omega⟩]
    exact q
theorem len_room (h : sp_room K C vs H Q E) : vs.length = (["count"] : List Str).length := by
  unfold sp_room at h
  repeat (obtain ⟨_, h⟩ := h)
  subst_vars; rfl
theorem pure_room (XF : Facts K C) (XH : HF K C.cHouse) (h : sp_room K C vs H Q E) : t_room K C E { nx := fun _ H' => Q .non H', rt := Q } (start ["count", "size"] vs) H := by
  obtain ⟨n, rfl, h0, h1, q⟩ := h
  show tSeq _ _ _ [some (.int n), none] H
  walk_at "run"
  refine ⟨fun m σ H' => H' = H ∧ ∃ s : Int, σ = [some (.int n), some (.int s)] ∧ (s = 8 ∨ s = 16 ∨ s = 32 ∨ s = 64 ∨ s = 128 ∨ s = 256) ∧ (s = 8 ∨ 4 * n > 3 * (s / 2)) ∧ m = (256 - s).toNat, ⟨_, rfl, 8, rfl, .inl rfl, .inl rfl, rfl⟩, ?_⟩
  rintro m σ H' ⟨rfl, s, rfl, hs, hb, rfl⟩
  unfold t_room_b1; walk_at "run"
  split
  · refine ⟨_, fun _ _ h => h, _, ?_, rfl, 2 * s, rfl, by omega, by omega, rfl⟩
    omega
  · have e : roomI n = s := by unfold roomI; repeat (split <;> try omega)
    rw [← e]; exact q
theorem len_look_for (h : sp_look_for K C vs H Q E) : vs.length = (["seats", "guest"] : List Str).length := by
  unfold sp_look_for at h
  repeat (obtain ⟨_, h⟩ := h)
  subst_vars; rfl
theorem pure_look_for (XF : Facts K C) (XH : HF K C.cHouse) (h : sp_look_for K C vs H Q E) : t_look_for K C E { nx := fun _ H' => Q .non H', rt := Q } (start ["seats", "guest", "many", "at", "looked"] vs) H := by
  obtain ⟨a, n, f, x, s, rfl, hS, h1, hn, ⟨e, he, h0⟩, ht, qN, qY⟩ := h
  have hn0 : 0 < n := by omega
  have hh := hm_lt hn0
  show tSeq _ _ _ [some (.ref a), some x, none, none, none] H
  refine if_step (b := !isG x) (H' := H) (fun R h => ?_) (fun e1 => ?_) (fun e1 => ?_)
  · walk_at "run"; unfold sp_is_guest
    exact ⟨x, s, rfl, ht, ⟨_, rfl, h⟩⟩
  · exact qN (by simpa using e1)
  have hG : isG x = true := by simpa using e1
  obtain ⟨g, rfl⟩ := isG_int hG
  walk_at "nxt"
  refine asg_step (v := .int n) (H' := H) (fun R h => ?_) ?_
  · walk_at "run"; exact ⟨_, .inl hS, by rw [row_len]; exact h⟩
  walk_at "nxt"
  refine asg_step (v := .int (hm n g)) (H' := H) (fun R h => ?_) ?_
  · walk_at "run"; unfold sp_home; walk_at "run"; exact ⟨by omega, by rw [hm_is hn0]; exact h⟩
  walk_at "nxt"
  refine asg_step (v := .int 1) (H' := H) (fun R h => h) ?_
  walk_at "nxt"
  refine while_step (fun m σ H' => H' = H ∧ ∃ p : Nat, σ = [some (.ref a), some (.int g), some (.int n), some (.int p), some (.int ((Ring.far n (hm n g) p + 1 : Nat) : Int))] ∧ p < n ∧ Ring.Car n (hm n) f g p ∧ m = Ring.far n p e) ⟨_, rfl, hm n g, by rw [Ring.far_self]; rfl, hh g, Ring.car_home, rfl⟩ ?_
  rintro m σ H' ⟨rfl, p, rfl, hp, c, rfl⟩
  have fin : (∀ y, f p = some y → ¬ Ring.Ah n (hm n) y g p) → tRet (tTup (tCons (tVar 3) (tCons (tVar 4) tNil))) { nx := fun _ H' => Q .non H', rt := Q } [some (.ref a), some (.int g), some (.int n), some (.int p), some (.int ((Ring.far n (hm n g) p + 1 : Nat) : Int))] H' := fun l => by
    walk_at "run"
    exact ⟨sizes (by decide), fun t ht => qY g rfl hG _ _ p (same_new ht) hp ⟨c, l⟩ upd_same⟩
  cases hy : f p with
  | none =>
    refine ⟨false, fun R h => ?_, (fun z => nomatch z), fun _ => fin fun y h => by rw [hy] at h; cases h⟩
    walk_at "run"; exact ⟨_, hS, _, row_at hp, by rw [hy]; exact h⟩
  | some y =>
    have hpe : p ≠ e := fun z => by rw [z, h0] at hy; cases hy
    by_cases A : Ring.Ah n (hm n) y g p
    · refine ⟨true, fun R h => ?_, fun _ => ?_, (fun z => nomatch z)⟩
      · walk_at "run"; refine ⟨_, hS, _, row_at hp, ?_⟩
        rw [hy]; walk_at "run"; refine ⟨_, hS, _, row_at hp, ?_⟩
        rw [hy]; unfold sp_ahead; walk_at "run"
        rw [ahead_is hp, decide_eq_true A]; exact ⟨by omega, h⟩
      unfold t_look_for_b1
      refine asg_step (v := .int (Ring.nx n p)) (H' := H') (fun R h => ?_) ?_
      · walk_at "run"; exact ⟨by omega, by rw [nx_is hp]; exact h⟩
      walk_at "nxt"
      have hx := Ring.far_nx (hh g) hp (Ring.no_wrap hh hp he h0 c (by rw [hy]; simp))
      refine asg_step (v := .int ((Ring.far n (hm n g) (Ring.nx n p) + 1 : Nat) : Int)) (H' := H') (fun R h => ?_) ?_
      · walk_at "run"; rw [hx] at h; push_cast at h ⊢; exact h
      have ft := Ring.far_to hp he hpe
      exact ⟨_, by omega, rfl, _, rfl, Ring.nx_lt hp, Ring.car_nx hh hp c hy A, rfl⟩
    · refine ⟨false, fun R h => ?_, (fun z => nomatch z), fun _ => fin fun y' h => by rw [hy] at h; cases h; exact A⟩
      walk_at "run"; refine ⟨_, hS, _, row_at hp, ?_⟩
      rw [hy]; walk_at "run"; refine ⟨_, hS, _, row_at hp, ?_⟩
      rw [hy]; unfold sp_ahead; walk_at "run"
      rw [ahead_is hp, decide_eq_false A]; exact ⟨by omega, h⟩
theorem len_place_of (h : sp_place_of K C vs H Q E) : vs.length = (["seats", "guest"] : List Str).length := by
  unfold sp_place_of at h
  repeat (obtain ⟨_, h⟩ := h)
  subst_vars; rfl
theorem pure_place_of (XF : Facts K C) (XH : HF K C.cHouse) (h : sp_place_of K C vs H Q E) : t_place_of K C E { nx := fun _ H' => Q .non H', rt := Q } (start ["seats", "guest", "at"] vs) H := by
  obtain ⟨a, n, f, x, s, rfl, hS, h1, hn, he, ht, qN, qY⟩ := h
  show tSeq _ _ _ [some (.ref a), some x, none] H
  by_cases hG : isG x = true
  · obtain ⟨g, rfl⟩ := isG_int hG
    refine asg_any (fun v H' => Same H H' ∧ ∃ p : Nat, v = .int p ∧ p < n ∧ Ring.Loc n (hm n) f g p) (fun R h => ?_) ?_
    · walk_at "run"; unfold sp_look_for
      refine ⟨a, n, f, _, s, rfl, hS, h1, hn, he, ht, fun z => ?_, fun g' e _ H' t p sm hp l e2 => ?_⟩
      · rw [hG] at z; cases z
      · cases e
        exact ⟨_, rfl, _, .inl (.inl e2), _, rfl, h _ _ ⟨sm, p, rfl, hp, l⟩⟩
    rintro v H' ⟨sm, p, rfl, hp, l⟩
    have q := qY g rfl hG H' p sm hp l
    walk_at "nxt"
    refine if_step (b := decide (f p = some g)) (H' := H') (fun R h => ?_) (fun e => ?_) (fun e => ?_)
    · walk_at "run"; refine ⟨_, sm.seq hS, _, row_at hp, ?_⟩
      cases hy : f p with
      | none => rw [hy] at h; walk_at "run"; simpa using h
      | some y => rw [hy] at h; walk_at "run"; simpa using h
    · rw [if_pos (of_decide_eq_true e)] at q
      walk_at "run"; exact q
    · rw [if_neg (of_decide_eq_false e)] at q
      walk_at "run"; exact q
  · refine asg_any (fun _ _ => False) (fun R h => ?_) fun _ _ z => z.elim
    walk_at "run"; unfold sp_look_for
    exact ⟨a, n, f, x, s, rfl, hS, h1, hn, he, ht, fun z => qN z, fun g' e z => absurd z hG⟩
theorem len_take_seat (h : sp_take_seat K C vs H Q E) : vs.length = (["seats", "guest"] : List Str).length := by
  unfold sp_take_seat at h
  repeat (obtain ⟨_, h⟩ := h)
  subst_vars; rfl
theorem pure_take_seat (XF : Facts K C) (XH : HF K C.cHouse) (h : sp_take_seat K C vs H Q E) : t_take_seat K C E { nx := fun _ H' => Q .non H', rt := Q } (start ["seats", "guest", "at", "found", "other"] vs) H := by
  obtain ⟨a, n, f, g, rfl, hS, h2, hn, P, ⟨e, he, h0⟩, ng, hG, q⟩ := h
  have hn0 : 0 < n := by omega
  have hh := hm_lt hn0
  show tSeq _ _ _ [some (.ref a), some (.int g), none, none, none] H
  refine asg_any (fun v H' => Same H H' ∧ ∃ p : Nat, v = .int p ∧ p < n ∧ Ring.Loc n (hm n) f g p) (fun R h => ?_) ?_
  · walk_at "run"; unfold sp_look_for
    refine ⟨a, n, f, _, .int, rfl, .inl (.inl hS), by omega, hn, ⟨e, he, h0⟩, rfl, (fun z => by rw [hG] at z; cases z), fun g' e1 _ H' t p sm hp l e2 => ?_⟩
    cases e1
    exact ⟨_, rfl, _, .inl (.inl e2), _, rfl, h _ _ ⟨sm, p, rfl, hp, l⟩⟩
  rintro v H1 ⟨s1, p0, rfl, hp0, l0⟩
  have hS1 := s1 _ _ hS
  walk_at "nxt"
  refine asg_step (v := .int p0) (H' := H1) (fun R h => ⟨_, rfl, h⟩) ?_
  walk_at "nxt"
  refine while_step (fun m σ H' => ∃ (f' : Nat → Option Int) (g' : Option Int) (p : Nat) (x : Option V), H' = upd H1 a (.lst (row n f')) ∧ σ = [some (.ref a), some (ov g'), some (.int p), some (.int p0), x] ∧ Ring.Path n (hm n) f' ∧
      ((g' = none ∧ m = 0 ∧ f' p0 = some g ∧ ∀ x, Ring.Sits n f' x ↔ Ring.Sits n f x ∨ x = g) ∨
        ∃ g1, g' = some g1 ∧ m = Ring.far n p e + 1 ∧ p < n ∧ Ring.Car n (hm n) f' g1 p ∧ f' e = none ∧ ¬ Ring.Sits n f' g1 ∧ (∀ y, f' p = some y → Ring.Ah n (hm n) g1 y p) ∧ (∀ x, (Ring.Sits n f' x ∨ x = g1) ↔ (Ring.Sits n f x ∨ x = g)) ∧
          ((p = p0 ∧ g1 = g) ∨ (f' p0 = some g ∧ Ring.far n p e < Ring.far n p0 e))))
    ⟨_, f, some g, p0, none, (upd_id hS1).symm, rfl, P, .inr ⟨g, rfl, rfl, hp0, l0.1, h0, ng, fun y hy => Ring.ah_tot (l0.2 y hy) (fun z => ng (z ▸ ⟨p0, hp0, hy⟩)), fun _ => Iff.rfl, .inl ⟨rfl, rfl⟩⟩⟩ ?_
  rintro m σ H' ⟨f', g', p, x, rfl, rfl, P', hc⟩
  have hS' : SqL K (upd H1 a (.lst (row n f'))) a (row n f') := .inl (.inl upd_same)
  rcases hc with ⟨rfl, rfl, hp, st⟩ | ⟨g1, rfl, rfl, hp, c, h0', ng', ah, st, tr⟩
  · refine ⟨false, fun R h => ?_, (fun z => nomatch z), fun _ => ?_⟩
    · walk_at "run"; exact h
    · walk_at "run"
      exact q _ f' p0 ((Off.same s1).trans Off.upd) upd_same P' st hp0 hp
  refine ⟨true, fun R h => ?_, fun _ => ?_, (fun z => nomatch z)⟩
  · walk_at "run"; exact h
  unfold t_take_seat_b1
  refine asg_step (v := ov (f' p)) (H' := upd H1 a (.lst (row n f'))) (fun R h => ?_) ?_
  · walk_at "run"; exact ⟨_, hS', _, row_at hp, h⟩
  walk_at "nxt"
  refine set_step (v := ov (some g1)) (H' := upd H1 a (.lst (row n f'))) (fun R h => ⟨_, rfl, h⟩) (fun R h => ⟨_, rfl, h⟩) (fun R h => ⟨_, rfl, h⟩) upd_same (row_ix hp) ?_
  rw [upd_upd, row_set]
  walk_at "nxt"
  refine asg_step (v := ov (f' p)) (H' := upd H1 a (.lst (row n (Ring.fup f' p (some g1))))) (fun R h => ⟨_, rfl, h⟩) ?_
  walk_at "nxt"
  refine asg_step (v := .int (Ring.nx n p)) (H' := upd H1 a (.lst (row n (Ring.fup f' p (some g1))))) (fun R h => ?_) ?_
  · walk_at "run"
    refine ⟨_, .inl (.inl (.inl upd_same)), ?_⟩
    rw [row_len]; exact ⟨by omega, by rw [nx_is hp]; exact h⟩
  have keep : Ring.fup f' p (some g1) p0 = some g := by
    rcases tr with ⟨e1, e2⟩ | ⟨e1, e2⟩
    · rw [e1, e2]; exact Ring.fup_same
    · have : p0 ≠ p := fun z => by rw [z] at e2; omega
      rw [Ring.fup_ne this]; exact e1
  cases hy : f' p with
  | none => exact ⟨0, by omega, _, none, _, _, rfl, rfl, Ring.step_put P' c hy, .inl ⟨rfl, rfl, keep, fun x => (Ring.sits_put hp hy x).trans (st x)⟩⟩
  | some y =>
    have hpe : p ≠ e := fun z => by rw [z, h0'] at hy; cases hy
    have ft := Ring.far_to hp he hpe
    obtain ⟨P2, c2⟩ := Ring.step_swap hh hp P' c hy (ah y hy)
    refine ⟨_, by omega, _, some y, _, _, rfl, rfl, P2, .inr ⟨y, rfl, rfl, Ring.nx_lt hp, c2, by rw [Ring.fup_ne (fun z => hpe z.symm)]; exact h0', Ring.swap_out hh P' hp hy ng', fun z hz => ?_, fun x => (Ring.sits_swap hp hy x).trans (st x), .inr ⟨keep, ?_⟩⟩⟩
    · rw [Ring.fup_ne (Ring.nx_ne h2 hp)] at hz
      exact Ring.push_next h2 hh hp he h0' P' hy hz
    · rcases tr with ⟨e1, e2⟩ | ⟨e1, e2⟩
      · rw [← e1]; omega
      · omega
theorem len_leave_seat (h : sp_leave_seat K C vs H Q E) : vs.length = (["seats", "at"] : List Str).length := by
  unfold sp_leave_seat at h
  repeat (obtain ⟨_, h⟩ := h)
  subst_vars; rfl
theorem pure_leave_seat (XF : Facts K C) (XH : HF K C.cHouse) (h : sp_leave_seat K C vs H Q E) : t_leave_seat K C E { nx := fun _ H' => Q .non H', rt := Q } (start ["seats", "at", "many", "behind"] vs) H := by
  obtain ⟨a, n, f, p, g, rfl, hS, h2, hn, P, ⟨e, he, h0⟩, hp, hf, q⟩ := h
  have hn0 : 0 < n := by omega
  have hh := hm_lt hn0
  show tSeq _ _ _ [some (.ref a), some (.int p), none, none] H
  refine asg_step (v := .int n) (H' := H) (fun R h => ?_) ?_
  · walk_at "run"; exact ⟨_, .inl (.inl (.inl hS)), by rw [row_len]; exact h⟩
  walk_at "nxt"
  refine asg_step (v := .int (Ring.nx n p)) (H' := H) (fun R h => ?_) ?_
  · walk_at "run"; exact ⟨by omega, by rw [nx_is hp]; exact h⟩
  walk_at "nxt"
  refine while_step (fun m σ H' => ∃ (f' : Nat → Option Int) (o : Nat) (w : Int), H' = upd H a (.lst (row n f')) ∧ σ = [some (.ref a), some (.int o), some (.int n), some (.int (Ring.nx n o))] ∧ o < n ∧ Ring.PathX n (hm n) f' o ∧ f' o = some w ∧ f' e = none ∧ (∀ x, Ring.SitsX n f' o x ↔ Ring.Sits n f x ∧ x ≠ g) ∧ m = Ring.far n o e)
    ⟨_, f, p, g, (upd_id hS).symm, rfl, hp, Ring.pathX_of P p, hf, h0, Ring.sitsX_of hh P hp hf, rfl⟩ ?_
  rintro m σ H' ⟨f', o, w, rfl, rfl, ho, PX, hw, h0', st, rfl⟩
  have hS' : SqL K (upd H a (.lst (row n f'))) a (row n f') := .inl (.inl upd_same)
  have hx := Ring.nx_lt ho
  have hoe : o ≠ e := fun z => by rw [z, h0'] at hw; cases hw
  have fin : (∀ y, f' (Ring.nx n o) = some y → hm n y = Ring.nx n o) → tAsg (tC .non) (gSub (tVar 0) (tVar 1) rSetL) { nx := fun _ H' => Q .non H', rt := Q } [some (.ref a), some (.int o), some (.int n), some (.int (Ring.nx n o))] (upd H a (.lst (row n f'))) := fun l => by
    refine set_step (v := ov none) (H' := upd H a (.lst (row n f'))) (fun R h => h) (fun R h => ⟨_, rfl, h⟩) (fun R h => ⟨_, rfl, h⟩) upd_same (row_ix ho) ?_
    rw [upd_upd, row_set]
    exact q _ (Ring.out_end h2 hh ho PX l) fun x => (Ring.outEnd_sits x).trans (st x)
  cases hy : f' (Ring.nx n o) with
  | none =>
    refine ⟨false, fun R h => ?_, (fun z => nomatch z), fun _ => fin fun y z => by rw [hy] at z; cases z⟩
    walk_at "run"; exact ⟨_, hS', _, row_at hx, by rw [hy]; exact h⟩
  | some y =>
    by_cases hm0 : hm n y = Ring.nx n o
    · refine ⟨false, fun R h => ?_, (fun z => nomatch z), fun _ => fin fun y' z => by rw [hy] at z; cases z; exact hm0⟩
      walk_at "run"; refine ⟨_, hS', _, row_at hx, ?_⟩
      rw [hy]; walk_at "run"; refine ⟨_, hS', _, row_at hx, ?_⟩
      rw [hy]; unfold sp_carried; walk_at "run"
      refine ⟨by omega, ?_⟩
      rw [far_is hx, hm0, Ring.far_self]; exact h
    · refine ⟨true, fun R h => ?_, fun _ => ?_, (fun z => nomatch z)⟩
      · walk_at "run"; refine ⟨_, hS', _, row_at hx, ?_⟩
        rw [hy]; walk_at "run"; refine ⟨_, hS', _, row_at hx, ?_⟩
        rw [hy]; unfold sp_carried; walk_at "run"
        refine ⟨by omega, ?_⟩
        have : Ring.far n (hm n y) (Ring.nx n o) ≠ 0 := fun z => hm0 (Ring.far_zero (hh y) z).symm
        rw [far_is hx, decide_eq_true (by omega)]; exact h
      unfold t_leave_seat_b1
      refine set_step (v := ov (some y)) (H' := upd H a (.lst (row n f'))) (fun R h => ?_) (fun R h => ⟨_, rfl, h⟩) (fun R h => ⟨_, rfl, h⟩) upd_same (row_ix ho) ?_
      · walk_at "run"; exact ⟨_, hS', _, row_at hx, by rw [hy]; exact h⟩
      rw [upd_upd, row_set]
      walk_at "nxt"
      refine asg_step (v := .int (Ring.nx n o)) (H' := upd H a (.lst (row n (Ring.fup f' o (some y))))) (fun R h => ⟨_, rfl, h⟩) ?_
      walk_at "nxt"
      refine asg_step (v := .int (Ring.nx n (Ring.nx n o))) (H' := upd H a (.lst (row n (Ring.fup f' o (some y))))) (fun R h => ?_) ?_
      · walk_at "run"; exact ⟨by omega, by rw [nx_is hx]; exact h⟩
      have ft := Ring.far_to ho he hoe
      exact ⟨_, by omega, _, _, y, rfl, rfl, hx, Ring.out_step h2 hh ho PX hw hy hm0, by rw [Ring.fup_ne (Ring.nx_ne h2 ho)]; exact hy, by rw [Ring.fup_ne (fun z => hoe z.symm)]; exact h0', fun x => (Ring.out_sits h2 ho hy x).trans (st x), rfl⟩
theorem len_looked_through (h : sp_looked_through K C vs H Q E) : vs.length = (["guests", "many"] : List Str).length := by
  unfold sp_looked_through at h
  repeat (obtain ⟨_, h⟩ := h)
  subst_vars; rfl
theorem pure_looked_through (XF : Facts K C) (XH : HF K C.cHouse) (h : sp_looked_through K C vs H Q E) : t_looked_through K C E { nx := fun _ H' => Q .non H', rt := Q } (start ["guests", "many", "guest"] vs) H := by
  obtain ⟨a, xs, n, rfl, hS, hl, hty, qN, qY⟩ := h
  show tSeq _ _ _ [some (.ref a), some (.int n), none] H
  refine for_lst (a := a) (xs := xs) (H' := H) (fun R h => ⟨_, rfl, h⟩) hS (fun k σ H' => H' = H ∧ (∃ x, σ = [some (.ref a), some (.int n), x]) ∧ ∀ j, j < k → ∀ x, xs[j]? = some x → isG x = true) ⟨rfl, ⟨_, rfl⟩, fun j hj => by omega⟩ (fun k σ H' _ h => h.1 ▸ hS) ?_ ?_
  · rintro k x σ H' hk ⟨rfl, ⟨y, rfl⟩, ih⟩
    have hm := List.mem_of_getElem? hk
    obtain ⟨s, hs⟩ := hty x hm
    unfold t_looked_through_b1
    unfold gName
    walk_at "nxt"
    refine if_step (b := !isG x) (H' := H') (fun R h => ?_) (fun e => ?_) (fun e => ?_)
    · walk_at "run"; unfold sp_is_guest; exact ⟨x, s, rfl, hs, _, rfl, h⟩
    · exact qN ⟨x, hm, by simpa using e⟩
    · refine ⟨rfl, ⟨_, rfl⟩, fun j hj z hz => ?_⟩
      by_cases w : j = k
      · rw [w, hk] at hz; cases hz; simpa using e
      · exact ih j (by omega) z hz
  rintro σ H' ⟨rfl, ⟨y, rfl⟩, all⟩
  obtain ⟨gs, rfl, hg⟩ := all_ints fun x hx => by
    obtain ⟨j, hj⟩ := List.mem_iff_getElem?.mp hx
    exact all j (List.getElem?_eq_some_iff.mp hj).1 x hj
  obtain ⟨q1, q2, q3⟩ := qY gs rfl hg
  rw [List.length_map] at hl
  walk_at "nxt"
  refine if_step (b := decide ((dist gs).length < gs.length)) (H' := H') (fun R h => ?_) (fun e => ?_) (fun e => ?_)
  · unfold tLenSet; walk_at "run"
    refine ⟨gs, hS, by omega, ?_⟩
    refine ⟨_, .inl hS, ?_⟩
    rw [List.length_map]
    rw [show decide (((dist gs).length : Int) < (gs.length : Int)) = decide ((dist gs).length < gs.length) from decide_eq_decide.mpr (by omega)]; exact h
  · refine q1 fun nd => ?_
    have := of_decide_eq_true e
    rw [dist_nodup nd] at this; omega
  have nd : gs.Nodup := Classical.byContradiction fun z => by have := dist_short z; have := of_decide_eq_false e; omega
  walk_at "nxt"
  refine if_step (b := decide (n ≤ gs.length)) (H' := H') (fun R h => ?_) (fun e => q2 nd (of_decide_eq_true e)) (fun e => q3 nd (by have := of_decide_eq_false e; omega))
  walk_at "run"; refine ⟨_, .inl hS, ?_⟩
  rw [List.length_map, show decide ((gs.length : Int) ≥ (n : Int)) = decide (n ≤ gs.length) from decide_eq_decide.mpr (by omega)]; exact h
theorem len_seated (h : sp_seated K C vs H Q E) : vs.length = (["guests", "many"] : List Str).length := by
  unfold sp_seated at h
  repeat (obtain ⟨_, h⟩ := h)
  subst_vars; rfl
theorem pure_seated (XF : Facts K C) (XH : HF K C.cHouse) (h : sp_seated K C vs H Q E) : t_seated K C E { nx := fun _ H' => Q .non H', rt := Q } (start ["guests", "many", "seats", "guest"] vs) H := by
  obtain ⟨a, xs, n, rfl, hS, hl, n2, n3, hty, qN, qY⟩ := h
  show tSeq _ _ _ [some (.ref a), some (.int n), none, none] H
  refine drop_any (fun v H' => H' = H ∧ ∃ gs : List Int, xs = gs.map V.int ∧ (∀ g ∈ gs, isG (.int g) = true) ∧ gs.Nodup ∧ gs.length < n) (fun R h => ?_) ?_
  · walk_at "run"; unfold sp_looked_through
    exact ⟨a, xs, n, rfl, hS, hl, hty, qN, fun gs e hg => ⟨(qY gs e hg).1, (qY gs e hg).2.1, fun nd lt => h _ _ ⟨rfl, gs, e, hg, nd, lt⟩⟩⟩
  rintro _ H1 ⟨rfl, gs, rfl, hg, nd, lt⟩
  have q := (qY gs rfl hg).2.2 nd lt
  walk_at "nxt"
  refine asg_any (fun v H' => Same H1 H' ∧ ∃ s, v = .ref s ∧ H' s = some (.lst (row n fun _ => none)) ∧ H1 s = none) (fun R h => ?_) ?_
  · walk_at "run"
    refine ⟨sizes (by decide), fun p1 h1 => ⟨_, upd_same, by omega, by omega, ?_, fun p2 hp2 => ?_⟩⟩
    · have := sizes (n := n) (by omega); simpa using this
    rw [Int.toNat_natCast, row_none]
    exact h _ _ ⟨(same_new h1).trans (same_new hp2), p2, rfl, upd_same, (same_new h1).free hp2⟩
  rintro _ H2 ⟨s2, s, rfl, hs2, f1⟩
  walk_at "nxt"
  refine for_lst (a := a) (xs := gs.map V.int) (H' := H2) (fun R h => ⟨_, rfl, h⟩) (s2.seq hS)
    (fun j σ H' => ∃ (f : Nat → Option Int) (x : Option V), σ = [some (.ref a), some (.int n), some (.ref s), x] ∧ Same H1 H' ∧ H' s = some (.lst (row n f)) ∧ Seat n f (gs.take j))
    ⟨_, _, rfl, s2, hs2, seat_none (by omega)⟩ (fun j σ H' _ ⟨_, _, _, sm, _⟩ => sm.seq hS) ?_ ?_
  · rintro j x σ H3 hj ⟨f, x5, rfl, sm, hs, S⟩
    have hlt := (List.getElem?_eq_some_iff.mp hj).1
    rw [List.length_map] at hlt
    rw [List.getElem?_map, List.getElem?_eq_getElem hlt] at hj
    cases hj
    have hnew := take_new nd hlt
    have hGj := hg _ (List.getElem_mem hlt)
    unfold t_seated_b1
    refine drop_any (fun v H' => ∃ f', Ring.Path n (hm n) f' ∧ (∀ x, Ring.Sits n f' x ↔ Ring.Sits n f x ∨ x = gs[j]) ∧ Off s H3 H' ∧ H' s = some (.lst (row n f'))) (fun R h => ?_) ?_
    · walk_at "run"; unfold sp_take_seat
      exact ⟨s, n, f, gs[j], rfl, hs, n2, n3, S.P, S.e (by omega), fun z => hnew ((S.st _).mp z), hGj, fun H' f' p of e P' st' _ _ => h _ _ ⟨f', P', st', of, e⟩⟩
    rintro _ H4 ⟨f', P', st', of, e⟩
    refine ⟨f', _, rfl, fun b o hb => of b o (fun z => by rw [z, f1] at hb; cases hb) (sm _ _ hb), e, ?_⟩
    rw [take_next hlt]
    exact S.add hnew hGj (by rw [List.length_take]; omega) P' st'
  rintro σ H3 ⟨f, x5, rfl, sm, hs, S⟩
  rw [List.length_map, List.take_length] at S
  walk_at "run"
  exact q _ s f sm hs f1 S
theorem not_int {H : Hp} {x : V} {s : Ty} (hx : ¬ ∃ i, x = .int i) (ht : tyOf H x = some s) : Ty.isA s .int = false ∨ Ty.isA s .bool = true := by
  cases x with
  | int i => exact absurd ⟨i, rfl⟩ hx
  | bl b => cases ht; exact .inr rfl
  | non => cases ht; exact .inl rfl
  | str z => cases ht; exact .inl rfl
  | byt b => cases ht
  | flt b => cases ht
  | ty n => cases ht
  | ref a =>
    have h' : (H a).bind hoTy = some s := ht
    cases e : H a with
    | none => rw [e] at h'; cases h'
    | some o =>
      rw [e] at h'
      have h2 : hoTy o = some s := h'
      cases o with
      | lst xs => cases h2; exact .inl rfl
      | tup xs => cases h2; exact .inl rfl
      | dK kvs => cases h2; exact .inl rfl
      | frz ob u =>
        cases u with
        | lst xs => cases h2; exact .inl rfl
        | _ => cases h2
      | _ => cases h2
theorem len_House_init (h : sp_House_init K C vs H Q E) : vs.length = (["self", "most"] : List Str).length := by
  unfold sp_House_init at h
  repeat (obtain ⟨_, h⟩ := h)
  subst_vars; rfl
theorem pure_House_init (XF : Facts K C) (XH : HF K C.cHouse) (h : sp_House_init K C vs H Q E) : t_House_init K C E { nx := fun _ H' => Q .non H', rt := Q } (start ["self", "most"] vs) H := by
  obtain ⟨p, dx, x, t, rfl, hp, ht, q1, q2⟩ := h
  show tSeq _ _ _ [some (.ref p), some x] H
  by_cases hx : ∃ M : Nat, x = .int M ∧ M ≤ 192
  · obtain ⟨M, rfl, hM⟩ := hx
    cases ht
    refine if_step (b := false) (H' := H) (fun R r => ?_) (fun z => nomatch z) (fun _ => ?_)
    · walk_at "run"
      rw [if_neg (by omega)]
      rw [decide_eq_false (by omega)]; exact r
    walk_at "nxt"
    unfold sFld
    walk_at "run"
    refine ⟨_, _, _, hp, XH.cl, XH.most, by show 0 < 1000; omega, ?_⟩
    refine ⟨sizes (by decide), fun p1 hp1 => ?_⟩
    unfold sp_room
    refine ⟨0, rfl, by omega, by omega, 8, rfl, _, upd_same, by omega, by omega, sizes (by decide), fun p2 hp2 => ?_⟩
    have hne1 : p1 ≠ p := fun z => by rw [z, upd_same] at hp1; cases hp1
    have hne2 : p2 ≠ p := fun z => by rw [z, upd_ne (fun w => hne1 w.symm), upd_same] at hp2; cases hp2
    have h21 : p2 ≠ p1 := fun z => by rw [z, upd_same] at hp2; cases hp2
    refine ⟨_, _, _, by rw [upd_ne (fun w => hne2 w.symm), upd_ne (fun w => hne1 w.symm), upd_same], XH.cl, XH.seats, by show 1 < 1000; omega, ?_⟩
    have f1 : H p1 = none := by rw [upd_ne hne1] at hp1; exact hp1
    have f2 : H p2 = none := by rw [upd_ne h21, upd_ne hne2] at hp2; exact hp2
    refine q1 M rfl hM _ p2 (fun b o hb ho => ?_) f2 ⟨⟨⟨dx, by rw [upd_same]; rfl⟩, ?_, seat_none (by omega), by omega, by omega⟩, rfl, by simp, hM⟩
    · rw [upd_ne hb, upd_ne (fun z => by rw [z, f2] at ho; cases ho), upd_ne (fun z => by rw [z, f1] at ho; cases ho), upd_ne hb]; exact ho
    · rw [upd_ne hne2, upd_same, ← row_none]; rfl
  · have q := q2 fun i e => by
      subst e
      by_cases z : i < 0 ∨ 192 < i
      · exact z
      · exact absurd ⟨i.toNat, by rw [show ((i.toNat : Nat) : Int) = i by omega], by omega⟩ hx
    by_cases hi : ∃ i, x = .int i
    · obtain ⟨i, rfl⟩ := hi
      cases ht
      refine if_step (b := true) (H' := H) (fun R r => ?_) (fun _ => q) (fun z => nomatch z)
      walk_at "run"
      by_cases z : i < 0
      · rw [if_pos z]; exact r
      · have : i > 192 := by
          by_cases w : i > 192
          · exact w
          · exact absurd ⟨i.toNat, by rw [show ((i.toNat : Nat) : Int) = i by omega], by omega⟩ hx
        rw [if_neg z, decide_eq_true this]; exact r
    · refine if_step (b := true) (H' := H) (fun R r => ?_) (fun _ => q) (fun z => nomatch z)
      simp only [tOr, tNot, tB, tCB, tCons, tNil, tVar, tC, rIsA]
      refine ⟨x, rfl, x, t, rfl, ht, t.isA .int, rfl, ?_⟩
      refine iteB (fun _ => r) fun e1 => ?_
      refine ⟨x, rfl, x, t, rfl, ht, t.isA .bool, rfl, ?_⟩
      rcases not_int hi ht with e2 | e2
      · rw [e2] at e1; cases e1
      · rw [e2]; exact r
theorem resize {D : Ends} {σ : L2.St} {i : Nat} {p : Addr} {M : Nat} {s : Addr} {n : Nat} {f : Nat → Option Int} {gs : List Int} {N : Nat} (XH : HF K C.cHouse) (h : Hs0 C H p M s n f gs) (e0 : σ[0]? = some (some (.ref p))) (ei : σ[i]? = some (some (.int N)))
    (hN : 8 ≤ N) (hN2 : N ≤ 256) (hl : gs.length < N) (k : ∀ (H' : Hp) (s' : Addr) (f' : Nat → Option Int), Off2 p s H H' → (s' = s ∨ H s' = none) → Hs0 C H' p M s' N f' gs → D.nx σ H') :
    tIfS (tTest (tOp rNe (tVar i) (tCB (rLenS K) (tCons (tFld K (tVar 0) "seats") tNil)))) (sFld K (tVar 0) (tCall (sp_seated K C) [] E (tCons (tMeth C.cHouse "guests" (sp_House_guests K C) [] E0 (tVar 0) tNil) (tCons (tVar i) tNil))) "seats") tNext D σ H := by
  obtain ⟨dx, hp⟩ := h.hp
  refine if_step (b := decide ((N : Int) ≠ (n : Int))) (H' := H) (fun R r => ?_) (fun _ => ?_) (fun e => ?_)
  · walk_at "run"
    refine ⟨_, ei, _, e0, _, rfl, _, _, _, hp, XH.cl, XH.seats, _, rfl, _, rfl, _, .inl h.sq, ?_⟩
    rw [row_len]; simpa using r
  · unfold sFld tCall tMeth
    walk_at "run"
    refine ⟨_, e0, _, rfl, _, _, hp, rfl, ?_⟩
    unfold sp_House_guests
    refine ⟨p, M, s, n, f, gs, rfl, h, fun H1 d ys s1 hd hys pm so => ⟨_, ei, ?_⟩⟩
    unfold sp_seated
    have l2 : ys.length = gs.length := pm.length_eq
    refine ⟨d, ys.map V.int, N, rfl, .inl (.inl hys), by rw [List.length_map]; omega, by omega, by omega, fun x hx => ?_, fun ⟨x, hx, z⟩ => ?_, fun gs' e hg => ?_⟩
    · obtain ⟨y, _, rfl⟩ := List.mem_map.mp hx
      exact ⟨.int, rfl⟩
    · obtain ⟨y, hy, rfl⟩ := List.mem_map.mp hx
      rw [h.S.g y (pm.mem_iff.mp hy)] at z; cases z
    have e2 : gs' = ys := (List.map_inj_right (fun a b z => by cases z; rfl)).mp e.symm
    subst e2
    have nd := pm.nodup_iff.mpr h.S.nd
    refine ⟨fun z => absurd nd z, fun _ z => by omega, fun _ _ H2 s2 f2 sm hs2 h0 S2 => ?_⟩
    have s12 := s1.trans sm
    have hp2 := s12 _ _ hp
    have h0' : H s2 = none := s1.free h0
    have hne : s2 ≠ p := fun z => by rw [z, hp] at h0'; cases h0'
    refine ⟨_, e0, _, rfl, _, _, _, hp2, XH.cl, XH.seats, by show 2 < 1000; omega, ?_⟩
    refine k _ s2 f2 (fun b o hb _ ho => by rw [upd_ne hb]; exact s12 _ _ ho) (.inr h0') ⟨⟨dx, ?_⟩, by rw [upd_ne hne]; exact hs2, S2.pm pm.symm, by omega, by omega⟩
    rw [upd_same]; rfl
  · have e' : (N : Int) = n := by simpa using e
    have : N = n := by omega
    subst this
    exact k _ _ _ (Off2.same (Same.refl _)) (.inl rfl) h
theorem len_House_come (h : sp_House_come K C vs H Q E) : vs.length = (["self", "guest"] : List Str).length := by
  unfold sp_House_come at h
  repeat (obtain ⟨_, h⟩ := h)
  subst_vars; rfl
theorem pure_House_come (XF : Facts K C) (XH : HF K C.cHouse) (h : sp_House_come K C vs H Q E) : t_House_come K C E { nx := fun _ H' => Q .non H', rt := Q } (start ["self", "guest", "size"] vs) H := by
  obtain ⟨p, M, s, n, f, gs, x, t, rfl, h, ht, qN, qY⟩ := h
  obtain ⟨dx, hp⟩ := h.hp
  have hn0 : 0 < n := by have := h.n2; omega
  show tSeq _ _ _ [some (.ref p), some x, none] H
  by_cases hG : isG x = true
  case neg =>
    refine if_any (b := true) (fun _ => False) (fun R r => ?_) (fun _ _ z => z.elim) (fun _ _ z => z.elim)
    walk_at "run"
    refine ⟨_, _, _, hp, XH.cl, XH.seats, _, rfl, ?_⟩
    unfold sp_place_of
    exact ⟨s, n, f, x, t, rfl, h.sq, by omega, h.n3, h.S.e hn0, ht, fun z => qN z, fun g' e z => absurd z hG⟩
  obtain ⟨g, rfl⟩ := isG_int hG
  obtain ⟨q1, q2, q3⟩ := qY g rfl hG
  have hh := hm_lt hn0
  by_cases st : g ∈ gs
  · refine if_ext (b := true) (fun R r => ?_) (fun _ H1 s1 => q1 st H1 s1) (fun z => nomatch z)
    walk_at "run"
    refine ⟨_, _, _, hp, XH.cl, XH.seats, _, rfl, ?_⟩
    unfold sp_place_of
    refine ⟨s, n, f, _, t, rfl, h.sq, by omega, h.n3, h.S.e hn0, ht, (fun z => by rw [hG] at z; cases z), fun g' e _ H' p sm hp l => ?_⟩
    cases e
    rw [if_pos ((Ring.loc_sits hh h.S.P hp l).mp ((h.S.st g).mpr st))]; exact r _ sm
  refine if_ext (b := false) (fun R r => ?_) (fun z => nomatch z) (fun _ H1 s1 => ?_)
  · walk_at "run"
    refine ⟨_, _, _, hp, XH.cl, XH.seats, _, rfl, ?_⟩
    unfold sp_place_of
    refine ⟨s, n, f, _, t, rfl, h.sq, by omega, h.n3, h.S.e hn0, ht, (fun z => by rw [hG] at z; cases z), fun g' e _ H' p sm hp l => ?_⟩
    cases e
    rw [if_neg (fun z => st ((h.S.st g).mp ((Ring.loc_sits hh h.S.P hp l).mpr z)))]; exact r _ sm
  have h1 := h.same s1
  have hp1 := s1 _ _ hp
  walk_at "nxt"
  refine if_step (b := decide (M ≤ gs.length)) (H' := H1) (fun R r => ?_) (fun e => q2 st (of_decide_eq_true e) H1 s1) (fun e => ?_)
  · walk_at "run"
    exact ⟨_, _, hp1, rfl, p, M, s, n, f, gs, rfl, h1.toHs0, _, _, _, hp1, XH.cl, XH.most, _, rfl, _, rfl, _, rfl, by rw [show decide ((M : Int) ≤ (gs.length : Nat)) = decide (M ≤ gs.length) from decide_eq_decide.mpr (by omega)]; exact r⟩
  have lM : gs.length < M := by have := of_decide_eq_false e; omega
  have hM := h.M3
  obtain ⟨N, eN, N1, N2, N3⟩ := roomI_nat (c := gs.length + 1) (by omega)
  walk_at "nxt"
  refine asg_step (v := .int N) (H' := H1) (fun R r => ?_) ?_
  · walk_at "run"
    refine ⟨_, _, hp1, rfl, p, M, s, n, f, gs, rfl, h1.toHs0, ?_⟩
    unfold sp_room
    exact ⟨_, rfl, _, rfl, by omega, by omega, by rw [show ((gs.length : Nat) : Int) + 1 = ((gs.length + 1 : Nat) : Int) by omega, eN]; exact r⟩
  walk_at "nxt"
  refine resize XH h1.toHs0 rfl rfl N1 N2 (by omega) fun H2 s2 f2 o2 hs2 h2 => ?_
  obtain ⟨dx2, hp2⟩ := h2.hp
  walk_at "nxt"
  refine ret_any (fun v H' => ∃ (f' : Nat → Option Int) (q : Nat), v = .int q ∧ Off s2 H2 H' ∧ Hs0 C H' p M s2 N f' (gs ++ [g]) ∧ q < N ∧ f' q = some g) (fun R r => ?_) ?_
  · walk_at "run"
    refine ⟨_, _, _, hp2, XH.cl, XH.seats, _, rfl, ?_⟩
    unfold sp_take_seat
    have ng : ¬ Ring.Sits N f2 g := fun z => st ((h2.S.st g).mp z)
    refine ⟨s2, N, f2, g, rfl, h2.hs, h2.n2, h2.n3, h2.S.P, h2.S.e (by omega), ng, hG, fun H' f' q o e P' st' hq hf => r _ _ ⟨f', q, rfl, o, h2.put o e ?_, hq, hf⟩⟩
    exact h2.S.add st hG (by omega) P' st'
  rintro v H3 ⟨f3, q, rfl, o3, h3, hq, hf⟩
  refine q3 st lM H3 s2 N f3 q (fun b o hb hb2 hbo => ?_) (hs2.imp id fun z => s1.free z) ⟨h3, ?_, ?_, hM⟩ hq hf
  · have w := o2 b o hb hb2 (s1 _ _ hbo)
    refine o3 b o (fun z => ?_) w
    subst z
    rcases hs2 with z | z
    · exact hb2 z
    · rw [s1 _ _ hbo] at z; cases z
  · rw [← eN, List.length_append]; rfl
  · rw [List.length_append]; exact lM
theorem len_House_go (h : sp_House_go K C vs H Q E) : vs.length = (["self", "guest"] : List Str).length := by
  unfold sp_House_go at h
  repeat (obtain ⟨_, h⟩ := h)
  subst_vars; rfl
theorem pure_House_go (XF : Facts K C) (XH : HF K C.cHouse) (h : sp_House_go K C vs H Q E) : t_House_go K C E { nx := fun _ H' => Q .non H', rt := Q } (start ["self", "guest", "at", "size"] vs) H := by
  obtain ⟨p, M, s, n, f, gs, x, t, rfl, h, ht, qN, qY⟩ := h
  obtain ⟨dx, hp⟩ := h.hp
  have hn0 : 0 < n := by have := h.n2; omega
  have hh := hm_lt hn0
  show tSeq _ _ _ [some (.ref p), some x, none, none] H
  by_cases hG : isG x = true
  case neg =>
    refine asg_any (fun _ _ => False) (fun R r => ?_) (fun _ _ z => z.elim)
    walk_at "run"
    refine ⟨_, _, _, hp, XH.cl, XH.seats, _, rfl, ?_⟩
    unfold sp_place_of
    exact ⟨s, n, f, x, t, rfl, h.sq, by omega, h.n3, h.S.e hn0, ht, fun z => qN z, fun g' e z => absurd z hG⟩
  obtain ⟨g, rfl⟩ := isG_int hG
  obtain ⟨q1, q2⟩ := qY g rfl hG
  refine asg_any (fun v H' => Same H H' ∧ ∃ q : Nat, q < n ∧ Ring.Loc n (hm n) f g q ∧ v = if f q = some g then .int q else .non) (fun R r => ?_) ?_
  · walk_at "run"
    refine ⟨_, _, _, hp, XH.cl, XH.seats, _, rfl, ?_⟩
    unfold sp_place_of
    refine ⟨s, n, f, _, t, rfl, h.sq, by omega, h.n3, h.S.e hn0, ht, (fun z => by rw [hG] at z; cases z), fun g' e _ H' q sm hq l => ?_⟩
    cases e
    exact r _ _ ⟨sm, q, hq, l, rfl⟩
  rintro v H1 ⟨s1, q, hq, l, hv⟩
  walk_at "nxt"
  by_cases st : f q = some g
  case neg =>
    rw [if_neg st] at hv; subst hv
    refine if_step (b := true) (H' := H1) (fun R r => ?_) (fun _ => q1 (fun z => st ((Ring.loc_sits hh h.S.P hq l).mp ((h.S.st g).mpr z))) H1 s1) (fun z => nomatch z)
    walk_at "run"; exact r
  rw [if_pos st] at hv; subst hv
  have hin : g ∈ gs := (h.S.st g).mp ⟨q, hq, st⟩
  refine if_step (b := false) (H' := H1) (fun R r => ?_) (fun z => nomatch z) (fun _ => ?_)
  · walk_at "run"; exact r
  have h1 := h.same s1
  have hp1 := s1 _ _ hp
  walk_at "nxt"
  refine drop_any (fun v H' => ∃ f', H' = upd H1 s (.lst (row n f')) ∧ Seat n f' (offG gs g)) (fun R r => ?_) ?_
  · walk_at "run"
    refine ⟨_, _, _, hp1, XH.cl, XH.seats, _, rfl, ?_⟩
    unfold sp_leave_seat
    exact ⟨s, n, f, q, g, rfl, h1.hs, h.n2, h.n3, h.S.P, h.S.e hn0, hq, st, fun f' P' st' => r _ _ ⟨f', rfl, h.S.del P' st' (offG_nd h.S.nd) fun x => offG_mem⟩⟩
  rintro v _ ⟨f', rfl, S'⟩
  have h2 : Hs0 C (upd H1 s (.lst (row n f'))) p M s n f' (offG gs g) := h1.toHs0.put Off.upd upd_same S'
  obtain ⟨dx2, hp2⟩ := h2.hp
  have hl := offG_len h.S.nd hin
  have hM := h.M3
  have hlM := h.lM
  obtain ⟨N, eN, N1, N2, N3⟩ := roomI_nat (c := (offG gs g).length) (by omega)
  walk_at "nxt"
  refine asg_step (v := .int N) (H' := upd H1 s (.lst (row n f'))) (fun R r => ?_) ?_
  · walk_at "run"
    refine ⟨_, _, hp2, rfl, p, M, s, n, f', _, rfl, h2, ?_⟩
    unfold sp_room
    exact ⟨_, rfl, by omega, by omega, by rw [eN]; exact r⟩
  walk_at "nxt"
  refine resize XH h2 rfl rfl N1 N2 (by omega) fun H2 s2 f2 o2 hs2 h2 => ?_
  walk_at "nxt"
  walk_at "run"
  refine q2 hin H2 s2 N f2 q (fun b o hb hb2 hbo => o2 b o hb hb2 (by rw [upd_ne hb2]; exact s1 _ _ hbo)) ?_ ⟨h2, eN.symm, by omega, hM⟩ hq st
  refine hs2.imp id fun z => s1.free ?_
  have : s2 ≠ s := fun w => by rw [w, upd_same] at z; cases z
  rw [upd_ne this] at z; exact z
theorem len_House_seat_of (h : sp_House_seat_of K C vs H Q E) : vs.length = (["self", "guest"] : List Str).length := by
  unfold sp_House_seat_of at h
  repeat (obtain ⟨_, h⟩ := h)
  subst_vars; rfl
theorem pure_House_seat_of (XF : Facts K C) (XH : HF K C.cHouse) (h : sp_House_seat_of K C vs H Q E) : t_House_seat_of K C E { nx := fun _ H' => Q .non H', rt := Q } (start ["self", "guest"] vs) H := by
  obtain ⟨p, M, s, n, f, gs, x, t, rfl, h, ht, qN, qY⟩ := h
  obtain ⟨dx, hp⟩ := h.hp
  have hn0 : 0 < n := by have := h.n2; omega
  show tRet _ _ [some (.ref p), some x] H
  walk_at "run"
  refine ⟨_, _, _, hp, XH.cl, XH.seats, _, rfl, ?_⟩
  unfold sp_place_of
  exact ⟨s, n, f, x, t, rfl, h.sq, by omega, h.n3, h.S.e hn0, ht, qN, fun g e hG H' q sm hq l => qY g e hG H' q sm hq l⟩
theorem len_House_row (h : sp_House_row K C vs H Q E) : vs.length = (["self"] : List Str).length := by
  unfold sp_House_row at h
  repeat (obtain ⟨_, h⟩ := h)
  subst_vars; rfl
theorem pure_House_row (XF : Facts K C) (XH : HF K C.cHouse) (h : sp_House_row K C vs H Q E) : t_House_row K C E { nx := fun _ H' => Q .non H', rt := Q } (start ["self"] vs) H := by
  obtain ⟨p, M, s, n, f, gs, rfl, h, q⟩ := h
  obtain ⟨dx, hp⟩ := h.hp
  show tRet _ _ [some (.ref p)] H
  walk_at "run"
  exact ⟨_, _, _, hp, XH.cl, XH.seats, _, rfl, _, rfl, _, .inl h.sq, fun l hl => q l hl⟩
theorem len_House_guests (h : sp_House_guests K C vs H Q E) : vs.length = (["self"] : List Str).length := by
  unfold sp_House_guests at h
  repeat (obtain ⟨_, h⟩ := h)
  subst_vars; rfl
theorem pure_House_guests (XF : Facts K C) (XH : HF K C.cHouse) (h : sp_House_guests K C vs H Q E) : t_House_guests K C E { nx := fun _ H' => Q .non H', rt := Q } (start ["self", "guest"] vs) H := by
  obtain ⟨p, M, s, n, f, gs, rfl, h, q⟩ := h
  obtain ⟨dx, hp⟩ := h.hp
  show tRet _ _ [some (.ref p), none] H
  unfold tRet tCB tCons
  refine lc_lst (a := s) (xs := row n f) (H' := H) (fun R r => ?_) h.sq (by rw [row_len]; have := h.n3; omega) (fun x => rfl) (fun i acc => acc = (Ring.gl i f).map V.int) rfl ?_ ?_
  · walk_at "run"; exact ⟨_, _, _, hp, XH.cl, XH.seats, _, rfl, r⟩
  · rintro i x acc H2 hi sm rfl
    obtain ⟨hi, rfl⟩ := row_some hi
    refine ⟨!decide (ov (f i) = .non), fun R h => ?_, fun e => ⟨ov (f i), fun R h => ⟨_, rfl, h⟩, ?_⟩, fun e => ?_⟩
    · exact ⟨_, rfl, ⟨_, rfl, h⟩⟩
    · rw [gl_next]
      cases hy : f i with
      | none => rw [hy] at e; cases e
      | some g => rw [List.map_append]; rfl
    · rw [gl_next]
      cases hy : f i with
      | none => simp
      | some g => rw [hy] at e; simp [ov] at e
  · rintro D H3 acc hD sm ha rfl hl
    rw [row_len] at ha
    walk_at "run"
    unfold rSortedI
    refine ⟨D, _, rfl, .inl (.inl ha), fun l1 p1 pm1 so1 hp1 => ?_⟩
    exact q _ p1 l1 (sm.trans (same_new hp1)) (sm.free hp1) upd_same (pm1.trans (h.S.perm (by have := h.n2; omega))) so1
theorem len_House_many (h : sp_House_many K C vs H Q E) : vs.length = (["self"] : List Str).length := by
  unfold sp_House_many at h
  repeat (obtain ⟨_, h⟩ := h)
  subst_vars; rfl
theorem pure_House_many (XF : Facts K C) (XH : HF K C.cHouse) (h : sp_House_many K C vs H Q E) : t_House_many K C E { nx := fun _ H' => Q .non H', rt := Q } (start ["self"] vs) H := by
  obtain ⟨p, M, s, n, f, gs, rfl, h, q⟩ := h
  obtain ⟨dx, hp⟩ := h.hp
  show tRet _ _ [some (.ref p)] H
  have em := h.S.em (by have := h.n2; omega)
  unfold tBM
  walk_at "run"
  refine ⟨_, _, _, hp, XH.cl, XH.seats, _, rfl, _, rfl, _, .inl h.sq, _, _, _, hp, XH.cl, XH.seats, _, rfl, ty_list h.sq, _, _, _, rfl, rfl, h.sq, rfl, row_flat, ?_⟩
  rw [cnt_row, row_len]
  refine ⟨_, rfl, ?_⟩
  rw [show (n : Int) - (Ring.em n f : Nat) = (gs.length : Nat) by omega]
  exact q
theorem len_law_cell_at (h : sp_law_cell_at K C vs H Q E) : vs.length = (["_law_script", "_law_k"] : List Str).length := by
  unfold sp_law_cell_at at h
  repeat (obtain ⟨_, h⟩ := h)
  subst_vars; rfl
theorem pure_law_cell_at (XF : Facts K C) (XH : HF K C.cHouse) (h : sp_law_cell_at K C vs H Q E) : t_law_cell_at K C E { nx := fun _ H' => Q .non H', rt := Q } (start ["_law_script", "_law_k"] vs) H := by
  obtain ⟨a, ns, k, rfl, hS, h0, q⟩ := h
  show tSeq _ _ _ [some (.ref a), some (.int k)] H
  walk_at "run"
  refine ⟨_, .inl hS, ?_⟩
  rw [List.length_map]
  unfold cellI at q
  split
  · rename_i hk
    rw [if_pos hk] at q
    refine ⟨_, hS, .int (ns.getD k.toNat 0), at_of (j := k.toNat) (by omega) ?_, q⟩
    rw [List.getElem?_map, List.getElem?_eq_getElem (by omega), List.getD_eq_getElem?_getD, List.getElem?_eq_getElem (by omega)]
    rfl
  · rename_i hk
    rw [if_neg hk] at q
    exact q
theorem len_law_whole (h : sp_law_whole K C vs H Q E) : vs.length = (["_law_found"] : List Str).length := by
  unfold sp_law_whole at h
  repeat (obtain ⟨_, h⟩ := h)
  subst_vars; rfl
theorem pure_law_whole (XF : Facts K C) (XH : HF K C.cHouse) (h : sp_law_whole K C vs H Q E) : t_law_whole K C E { nx := fun _ H' => Q .non H', rt := Q } (start ["_law_found"] vs) H := by
  obtain ⟨x, s, rfl, ht, q⟩ := h
  show tRet _ _ [some x] H
  have key : (Ty.isA s .int && !Ty.isA s .bool) = isWh x := by
    cases x with
    | int i => cases ht; rfl
    | bl b => cases ht; rfl
    | non => cases ht; rfl
    | str z => cases ht; rfl
    | byt b => cases ht
    | flt b => cases ht
    | ty n => cases ht
    | ref a =>
      have h' : (H a).bind hoTy = some s := ht
      cases e : H a with
      | none => rw [e] at h'; cases h'
      | some o =>
        rw [e] at h'
        have h2 : hoTy o = some s := h'
        cases o with
        | lst xs => cases h2; rfl
        | tup xs => cases h2; rfl
        | dK kvs => cases h2; rfl
        | frz ob u =>
          cases u with
          | lst xs => cases h2; rfl
          | _ => cases h2
        | _ => cases h2
  simp only [tRet, tAndV, tNotV, tCB, tCons, tNil, tVar, tC, rIsA]
  refine ⟨x, rfl, x, s, rfl, ht, s.isA .int, rfl, ?_⟩
  refine iteB (fun e => ?_) fun e => ?_
  · refine ⟨x, rfl, x, s, rfl, ht, s.isA .bool, rfl, ?_⟩
    rw [e] at key
    rw [show (!Ty.isA s .bool) = isWh x from by rw [← key]; rfl]
    exact q
  · rw [e] at key
    rw [show false = isWh x from by rw [← key]; rfl]
    exact q
theorem len_law_home (h : sp_law_home K C vs H Q E) : vs.length = (["_law_guest_here", "_law_many"] : List Str).length := by
  unfold sp_law_home at h
  repeat (obtain ⟨_, h⟩ := h)
  subst_vars; rfl
theorem pure_law_home (XF : Facts K C) (XH : HF K C.cHouse) (h : sp_law_home K C vs H Q E) : t_law_home K C E { nx := fun _ H' => Q .non H', rt := Q } (start ["_law_guest_here", "_law_many"] vs) H := by
  obtain ⟨g, n, rfl, h0, q⟩ := h
  show tRet _ _ [some (.int g), some (.int n)] H
  walk_at "run"
  exact ⟨h0, q⟩
theorem len_law_base (h : sp_law_base K C vs H Q E) : vs.length = (["_law_cell"] : List Str).length := by
  unfold sp_law_base at h
  repeat (obtain ⟨_, h⟩ := h)
  subst_vars; rfl
theorem pure_law_base (XF : Facts K C) (XH : HF K C.cHouse) (h : sp_law_base K C vs H Q E) : t_law_base K C E { nx := fun _ H' => Q .non H', rt := Q } (start ["_law_cell"] vs) H := by
  obtain ⟨c, rfl, q⟩ := h
  show tSeq _ _ _ [some (.int c)] H
  unfold baseI at q
  walk_at "run"
  repeat' split
  all_goals simp_all
theorem len_law_guest (h : sp_law_guest K C vs H Q E) : vs.length = (["_law_cell", "_law_base_here"] : List Str).length := by
  unfold sp_law_guest at h
  repeat (obtain ⟨_, h⟩ := h)
  subst_vars; rfl
theorem pure_law_guest (XF : Facts K C) (XH : HF K C.cHouse) (h : sp_law_guest K C vs H Q E) : t_law_guest K C E { nx := fun _ H' => Q .non H', rt := Q } (start ["_law_cell", "_law_base_here", "_law_number"] vs) H := by
  obtain ⟨c, b, rfl, q⟩ := h
  show tSeq _ _ _ [some (.int c), some (.int b), none] H
  unfold gstI at q
  walk_at "run"
  repeat' split
  all_goals simp_all
theorem len_law_room (h : sp_law_room K C vs H Q E) : vs.length = (["_law_count"] : List Str).length := by
  unfold sp_law_room at h
  repeat (obtain ⟨_, h⟩ := h)
  subst_vars; rfl
theorem pure_law_room (XF : Facts K C) (XH : HF K C.cHouse) (h : sp_law_room K C vs H Q E) : t_law_room K C E { nx := fun _ H' => Q .non H', rt := Q } (start ["_law_count", "_law_many"] vs) H := by
  obtain ⟨n, rfl, h0, h1, q⟩ := h
  show tSeq _ _ _ [some (.int n), none] H
  walk_at "run"
  refine ⟨fun m σ H' => H' = H ∧ ∃ s : Int, σ = [some (.int n), some (.int s)] ∧ (s = 8 ∨ s = 16 ∨ s = 32 ∨ s = 64 ∨ s = 128 ∨ s = 256) ∧ (s = 8 ∨ 4 * n > 3 * (s / 2)) ∧ m = (256 - s).toNat, ⟨_, rfl, 8, rfl, .inl rfl, .inl rfl, rfl⟩, ?_⟩
  rintro m σ H' ⟨rfl, s, rfl, hs, hb, rfl⟩
  unfold t_law_room_b1; walk_at "run"
  split
  · refine ⟨_, fun _ _ h => h, _, ?_, rfl, s * 2, rfl, by omega, by omega, rfl⟩
    omega
  · have e : roomI n = s := by unfold roomI; repeat (split <;> try omega)
    rw [← e]; exact q
theorem len_law_settled (h : sp_law_settled K C vs H Q E) : vs.length = (["_law_seats", "_law_many", "_law_guests"] : List Str).length := by
  unfold sp_law_settled at h
  repeat (obtain ⟨_, h⟩ := h)
  subst_vars; rfl
theorem pure_law_settled (XF : Facts K C) (XH : HF K C.cHouse) (h : sp_law_settled K C vs H Q E) : t_law_settled K C E { nx := fun _ H' => Q .non H', rt := Q } (start ["_law_seats", "_law_many", "_law_guests", "_law_at_here", "_law_way", "_law_before", "_law_guest_here"] vs) H := by
  obtain ⟨s, a, n, f, gs, rfl, hs, hA, hn, P, he, pm, q⟩ := h
  have hS : SqL K H s (row n f) := .inl (.inl hs)
  show tSeq _ _ _ [some (.ref s), some (.int n), some (.ref a), none, none, none, none] H
  have hin := in_none.mpr he
  refine if_step (b := false) (H' := H) (fun R h => ?_) (fun z => nomatch z) (fun _ => ?_)
  · walk_at "run"; refine ⟨_, tyOf_at hs rfl, ?_⟩
    walk_at "run"
    refine ⟨_, .inl hS, ?_⟩
    rw [row_len, if_neg (by simp)]
    exact ⟨_, .inl hS, rfl, row_flat, by rw [hin]; exact h⟩
  walk_at "nxt"
  refine for_rng1 (n := n) (j := n) (H' := H) (fun R h => ?_) rfl (by omega) (fun k σ H' => H' = H ∧ ∃ x y z, σ = [some (.ref s), some (.int n), some (.ref a), x, y, z, none]) ⟨rfl, _, _, _, rfl⟩ ?_ ?_
  · walk_at "run"; exact h
  · rintro k σ H' hk ⟨rfl, x, y, z, rfl⟩
    have hn0 : 0 < n := by omega
    have hh := hm_lt hn0
    unfold t_law_settled_b1
    cases hy : f k with
    | none =>
      refine if_step (b := false) (H' := H') (fun R h => ?_) (fun z => nomatch z) (fun _ => ⟨rfl, _, _, _, rfl⟩)
      walk_at "run"; exact ⟨_, hS, _, row_at hk, by rw [hy]; exact h⟩
    | some g =>
      refine if_step (b := true) (H' := H') (fun R h => ?_) (fun _ => ?_) (fun z => nomatch z)
      · walk_at "run"; exact ⟨_, hS, _, row_at hk, by rw [hy]; exact h⟩
      refine if_step (b := false) (H' := H') (fun R h => ?_) (fun z => nomatch z) (fun _ => ?_)
      · walk_at "run"; refine ⟨_, hS, _, row_at hk, ?_⟩
        rw [hy]; unfold sp_law_whole; walk_at "run"; exact h
      walk_at "nxt"
      refine asg_step (v := .int (Ring.far n (hm n g) k)) (H' := H') (fun R h => ?_) ?_
      · walk_at "run"; refine ⟨_, hS, _, row_at hk, ?_⟩
        rw [hy]; unfold sp_law_home; walk_at "run"
        refine ⟨by omega, by omega, ?_⟩
        have := far_is hk g
        unfold farI at this
        rw [this]; exact h
      walk_at "nxt"
      by_cases hw : hm n g = k
      · have e0 : ¬ ((Ring.far n (hm n g) k : Int) > 0) := by rw [hw, Ring.far_self]; omega
        refine if_step (b := false) (H' := H') (fun R h => ?_) (fun z => nomatch z) (fun _ => ?_)
        · walk_at "run"; rw [if_neg e0]; exact h
        walk_at "nxt"
        refine if_step (b := false) (H' := H') (fun R h => ?_) (fun z => nomatch z) (fun _ => ⟨rfl, _, _, _, rfl⟩)
        walk_at "run"; rw [decide_eq_false e0]; exact h
      · have fp := Ring.far_pv (hh g) hk (fun z => hw z.symm)
        have e0 : (Ring.far n (hm n g) k : Int) > 0 := by omega
        obtain ⟨yb, hyb, ab⟩ := Ring.path_before hh P hk hy hw
        refine if_step (b := false) (H' := H') (fun R h => ?_) (fun z => nomatch z) (fun _ => ?_)
        · walk_at "run"; rw [if_pos e0]; exact ⟨_, hS, _, at_before hk, by rw [hyb]; exact h⟩
        walk_at "nxt"
        refine if_step (b := true) (H' := H') (fun R h => ?_) (fun _ => ?_) (fun z => nomatch z)
        · walk_at "run"; rw [decide_eq_true e0]; exact h
        refine asg_step (v := .int ((Ring.far n (hm n yb) (Ring.pv n k) : Int) + 1)) (H' := H') (fun R h => ?_) ?_
        · walk_at "run"; refine ⟨_, hS, _, at_before hk, ?_⟩
          rw [hyb]; unfold sp_law_home; walk_at "run"
          refine ⟨by omega, by omega, ?_⟩
          rw [far_before_is hk]; exact h
        walk_at "nxt"
        refine if_step (b := false) (H' := H') (fun R h => ?_) (fun z => nomatch z) (fun _ => ⟨rfl, _, _, _, rfl⟩)
        walk_at "run"
        unfold Ring.Ah at ab
        rw [if_neg (by omega)]
        by_cases e1 : (Ring.far n (hm n yb) (Ring.pv n k) : Int) + 1 = (Ring.far n (hm n g) k : Int)
        · rw [if_pos e1]
          refine ⟨_, hS, _, at_before hk, _, hS, _, row_at hk, ?_⟩
          rw [hyb, hy]; walk_at "run"
          rw [decide_eq_false (by omega)]; exact h
        · rw [if_neg e1]; exact h
  · rintro σ H' ⟨rfl, x, y, z, rfl⟩
    refine nx_at ?_
    refine ret_any (fun v H2 => Same H' H2 ∧ v = .bl true) (fun R h => ?_) ?_
    rotate_left
    · rintro v H2 ⟨hv, rfl⟩; exact q _ hv
    unfold tOp tCB tCons
    refine lc_lst (a := s) (xs := row n f) (H' := H') (fun R h => ⟨_, rfl, h⟩) hS (by rw [row_len]; omega) (fun x => rfl) (fun i acc => acc = (Ring.gl i f).map V.int) rfl ?_ ?_
    · rintro i x acc H2 hi sm rfl
      obtain ⟨hi, rfl⟩ := row_some hi
      refine ⟨!decide (ov (f i) = .non), fun R h => ?_, fun e => ⟨ov (f i), fun R h => ⟨_, rfl, h⟩, ?_⟩, fun e => ?_⟩
      · exact ⟨_, rfl, ⟨_, rfl, h⟩⟩
      · rw [gl_next]
        cases hy : f i with
        | none => rw [hy] at e; cases e
        | some g => rw [List.map_append]; rfl
      · rw [gl_next]
        cases hy : f i with
        | none => simp
        | some g => rw [hy] at e; simp [ov] at e
    · rintro D H3 acc hD sm ha rfl hl
      rw [row_len] at ha
      walk_at "run"
      unfold rSortedI
      refine ⟨D, _, rfl, .inl (.inl ha), fun l1 p1 pm1 so1 hp1 => ?_⟩
      refine ⟨a, gs, rfl, (same_new hp1).seq (sm.seq hA), fun l2 p2 pm2 so2 hp2 => ?_⟩
      have e := sorted_one pm1 pm2 so1 so2 pm
      subst e
      exact eqD_lst ((same_new hp2).seq (.inl (.inl upd_same))) (.inl (.inl upd_same)) ints_flD (h _ _ ⟨sm.trans ((same_new hp1).trans (same_new hp2)), rfl⟩)
theorem len_law_most (h : sp_law_most K C vs H Q E) : vs.length = (["_law_cell"] : List Str).length := by
  unfold sp_law_most at h
  repeat (obtain ⟨_, h⟩ := h)
  subst_vars; rfl
theorem pure_law_most (XF : Facts K C) (XH : HF K C.cHouse) (h : sp_law_most K C vs H Q E) : t_law_most K C E { nx := fun _ H' => Q .non H', rt := Q } (start ["_law_cell"] vs) H := by
  obtain ⟨c, rfl, q⟩ := h
  show tSeq _ _ _ [some (.int c)] H
  unfold mostI at q
  walk_at "run"
  repeat' split
  all_goals simp_all
theorem len_law_house (h : sp_law_house K C vs H Q E) : vs.length = (["_law_cell"] : List Str).length := by
  unfold sp_law_house at h
  repeat (obtain ⟨_, h⟩ := h)
  subst_vars; rfl
theorem pure_law_house (XF : Facts K C) (XH : HF K C.cHouse) (h : sp_law_house K C vs H Q E) : t_law_house K C E { nx := fun _ H' => Q .non H', rt := Q } (start ["_law_cell"] vs) H := by
  obtain ⟨c, rfl, q⟩ := h
  show tSeq _ _ _ [some (.int c)] H
  have key : ∀ (M : Nat) (R : VK), mostI c = (M : Int) → M ≤ 192 → (∀ H' p s, Same H H' → Hs C H' p M s 8 (fun _ => none) [] → H p = none → H s = none → R (.ref p) H') → ∀ x dx, H x = none → H dx = none → dx ≠ x →
      sp_House_init K C [.ref x, .int M] (upd (upd H dx (.own x)) x (.ins C.cHouse dx [])) (fun v H2 => v = .non ∧ R (.ref x) H2) E0 := fun M R eM hM r x dx hx hdx hne => by
    have sm : Same H (upd (upd H dx (.own x)) x (.ins C.cHouse dx [])) := fun b o hb => by
      rw [upd_ne (fun z => by rw [z, hx] at hb; cases hb), upd_ne (fun z => by rw [z, hdx] at hb; cases hb)]; exact hb
    unfold sp_House_init
    refine ⟨x, dx, _, .int, rfl, upd_same, rfl, fun M' e hM' H' s o hs h' => ?_, fun z => ?_⟩
    · cases e
      exact ⟨rfl, r _ _ _ (fun b o' hb => o b o' (fun z => by rw [z, hx] at hb; cases hb) (sm _ _ hb)) h' hx (sm.free hs)⟩
    · exfalso
      have := z M rfl
      omega
  refine if_step (b := decide (c % 3 = 0)) (H' := H) (fun R r => ?_) (fun e => ?_) (fun e => ?_)
  · walk_at "run"; simpa using r
  · have e' := of_decide_eq_true e
    unfold tRet tMake
    walk_at "run"
    intro x dx hx hdx hne
    exact key 96 _ (by unfold mostI; rw [if_pos e']; rfl) (by omega) (fun H' p s sm h h1 h2 => q H' p 96 s sm (by unfold mostI; rw [if_pos e']; rfl) h h1 h2) x dx hx hdx hne
  · walk_at "nxt"
    unfold tRet tMake
    walk_at "run"
    unfold sp_law_most
    refine ⟨c, rfl, ?_⟩
    intro x dx hx hdx hne
    obtain ⟨M, eM, hM⟩ := mostI_nat c
    rw [eM]
    exact key M _ eM hM (fun H' p s sm h h1 h2 => q H' p M s sm eM h h1 h2) x dx hx hdx hne
theorem len_law_done (h : sp_law_done K C vs H Q E) : vs.length = (["_law_house_here", "_law_guest_here", "_law_comes"] : List Str).length := by
  unfold sp_law_done at h
  repeat (obtain ⟨_, h⟩ := h)
  subst_vars; rfl
theorem pure_law_done (XF : Facts K C) (XH : HF K C.cHouse) (h : sp_law_done K C vs H Q E) : t_law_done K C E { nx := fun _ H' => Q .non H', rt := Q } (start ["_law_house_here", "_law_guest_here", "_law_comes", "e"] vs) H := by
  obtain ⟨p, M, s, n, f, gs, g, b, rfl, h, hG, qC, qG⟩ := h
  obtain ⟨dx, hp⟩ := h.hp
  show tTryAs _ _ _ _ _ _ _ [some (.ref p), some (.int g), some (.bl b), none] H
  have rest : ∀ (x : Ek) (a' : Addr) (H2 : Hp) (D : Ends), (∀ H3 d, Same H2 H3 → H3 d = some (.lst [.bl (decide (x = .twice)), .bl (decide (x = .full)), .bl (decide (x = .away))]) → D.rt (.ref d) H3) →
      t_law_done_b1_exc K C E a' (.ref (C.of x)) none D [some (.ref p), some (.int g), some (.bl b), some (.ref a')] H2 := fun x a' H2 D k => by
    unfold t_law_done_b1_exc
    walk_at "run"
    unfold rIsX
    refine ⟨x, rfl, rfl, .inl ⟨.twice, rfl, ?_⟩⟩
    refine ⟨x, rfl, rfl, .inl ⟨.full, rfl, ?_⟩⟩
    refine ⟨x, rfl, rfl, .inl ⟨.away, rfl, ?_⟩⟩
    walk_at "run"
    exact ⟨sizes (by decide), fun p hp => k _ _ (same_new hp) upd_same⟩
  unfold tTryAs t_law_done_b1_try
  cases b with
  | true =>
    obtain ⟨q1, q2, q3⟩ := qC rfl
    refine if_step (b := true) (H' := H) (fun R r => ?_) (fun _ => ?_) (fun z => nomatch z)
    · walk_at "run"; exact r
    unfold tRet tMethW
    walk_at "run"
    refine ⟨_, _, hp, rfl, ?_⟩
    unfold sp_House_come
    refine ⟨p, M, s, n, f, gs, _, .int, rfl, h, rfl, (fun z => by rw [hG] at z; cases z), fun g' e _ => ?_⟩
    cases e
    refine ⟨fun st H1 s1 => ⟨true, XF.exm .twice, fun _ a' ha' => rest .twice a' _ _ fun H3 d s3 hd => ?_, (fun z => nomatch z)⟩, fun st lM H1 s1 => ⟨true, XF.exm .full, fun _ a' ha' => rest .full a' _ _ fun H3 d s3 hd => ?_, (fun z => nomatch z)⟩, q3⟩
    · exact q1 st H3 d (s1.trans s3) hd
    · exact q2 st lM H3 d (s1.trans s3) hd
  | false =>
    obtain ⟨q1, q2⟩ := qG rfl
    refine if_step (b := false) (H' := H) (fun R r => ?_) (fun z => nomatch z) (fun _ => ?_)
    · walk_at "run"; exact r
    walk_at "nxt"
    unfold tRet tMethW
    walk_at "run"
    refine ⟨_, _, hp, rfl, ?_⟩
    unfold sp_House_go
    refine ⟨p, M, s, n, f, gs, _, .int, rfl, h, rfl, (fun z => by rw [hG] at z; cases z), fun g' e _ => ?_⟩
    cases e
    refine ⟨fun st H1 s1 => ⟨true, XF.exm .away, fun _ a' ha' => rest .away a' _ _ fun H3 d s3 hd => ?_, (fun z => nomatch z)⟩, q2⟩
    exact q1 st H3 d (s1.trans s3) hd
theorem len_law_at (h : sp_law_at K C vs H Q E) : vs.length = (["_law_seats", "_law_guest_here"] : List Str).length := by
  unfold sp_law_at at h
  repeat (obtain ⟨_, h⟩ := h)
  subst_vars; rfl
theorem pure_law_at (XF : Facts K C) (XH : HF K C.cHouse) (h : sp_law_at K C vs H Q E) : t_law_at K C E { nx := fun _ H' => Q .non H', rt := Q } (start ["_law_seats", "_law_guest_here"] vs) H := by
  obtain ⟨a, n, f, gs, g, q, rfl, hS, S, n1, hq, l, qq⟩ := h
  have hh := hm_lt (n := n) (by omega)
  show tSeq _ _ _ [some (.ref a), some (.int g)] H
  by_cases st : f q = some g
  · rw [if_pos st] at qq
    refine if_step (b := true) (H' := H) (fun R r => ?_) (fun _ => ?_) (fun z => nomatch z)
    · walk_at "run"
      exact ⟨_, .inl hS, rfl, row_flat, by rw [in_some.mpr ⟨q, hq, st⟩]; exact r⟩
    unfold tRet tBM
    walk_at "run"
    refine ⟨ty_list hS, a, _, _, q, _, rfl, rfl, hS, rfl, row_flat, row_get hq, by rw [st]; exact decide_eq_true rfl, fun m z hmq hz => ?_, qq⟩
    obtain ⟨hmn, rfl⟩ := row_some hz
    cases e : f m with
    | none => rfl
    | some y =>
      refine decide_eq_false fun w => ?_
      rw [w] at e
      have := Ring.path_one hh S.P hmn hq e st
      omega
  · rw [if_neg st] at qq
    refine if_step (b := false) (H' := H) (fun R r => ?_) (fun z => nomatch z) (fun _ => ?_)
    · walk_at "run"
      refine ⟨_, .inl hS, rfl, row_flat, ?_⟩
      have : inV (.int g) (row n f) = false := by
        cases e : inV (.int g) (row n f) with
        | false => rfl
        | true => exact absurd ((Ring.loc_sits hh S.P hq l).mp (in_some.mp e)) st
      rw [this]; exact r
    walk_at "run"; exact qq
theorem len_law_numbers (h : sp_law_numbers K C vs H Q E) : vs.length = (["_law_found", "_law_due"] : List Str).length := by
  unfold sp_law_numbers at h
  repeat (obtain ⟨_, h⟩ := h)
  subst_vars; rfl
theorem pure_law_numbers (XF : Facts K C) (XH : HF K C.cHouse) (h : sp_law_numbers K C vs H Q E) : t_law_numbers K C E { nx := fun _ H' => Q .non H', rt := Q } (start ["_law_found", "_law_due", "_law_one", "_law_other"] vs) H := by
  obtain ⟨a, b, ys, rfl, ha, hb, q⟩ := h
  have hA : SqL K H a (ys.map V.int) := .inl (.inl ha)
  have hB : SqL K H b (ys.map V.int) := .inl (.inl hb)
  show tSeq _ _ _ [some (.ref a), some (.ref b), none, none] H
  refine if_step (b := false) (H' := H) (fun R r => ?_) (fun z => nomatch z) (fun _ => ?_)
  · walk_at "run"; refine ⟨_, tyOf_at ha rfl, ?_⟩
    walk_at "run"
    refine ⟨_, .inl hA, _, .inl hB, ?_⟩
    simpa using r
  walk_at "nxt"
  refine for_zip2 (a := a) (b := b) (xs := ys.map V.int) (ys := ys.map V.int) (H' := H) (fun R h => ⟨_, rfl, _, rfl, h⟩) hA hB rfl (fun k σ H' => Same H H' ∧ ∃ x y, σ = [some (.ref a), some (.ref b), x, y]) ⟨Same.refl _, _, _, rfl⟩ (fun k σ H' h => ⟨h.1.seq hA, h.1.seq hB⟩) ?_ ?_
  · rintro k x y σ H1 hx hy ⟨s1, x2, x3, rfl⟩ H2 s2
    rw [hx] at hy
    cases hy
    obtain ⟨c, _, rfl⟩ := List.mem_map.mp (List.mem_of_getElem? hx)
    unfold t_law_numbers_b1
    refine if_step (b := false) (H' := H2) (fun R h => ?_) (fun z => nomatch z) (fun _ => ⟨s1.trans s2, _, _, rfl⟩)
    walk_at "run"; unfold sp_law_whole; walk_at "run"; exact h
  · rintro σ H1 ⟨s1, x2, x3, rfl⟩
    walk_at "run"; exact q _ s1
/-- [x, list(x)] is held -/
theorem hold {D : Ends} {σ : L2.St} {i j : Nat} {h a : Addr} {hs xs : List V} (ei : σ[i]? = some (some (.ref h))) (ej : σ[j]? = some (some (.ref a))) (hh : H h = some (.lst hs)) (hl : hs.length < 100000) (ha : H a = some (.lst xs)) (fx : xs.all flD = true) (hne : a ≠ h)
    (k : ∀ (H1 : Hp) (w b : Addr), Same H H1 → H w = none → H b = none → H1 w = some (.lst [.ref a, .ref b]) → H1 a = some (.lst xs) → H1 b = some (.lst xs) → D.nx σ (upd H1 h (.lst (hs ++ [.ref w])))) :
    tDrop (tBM K "list" rAppend (tVar i) (tCons (tLst (tCons (tVar j) (tCons (tCB (rListS K) (tCons (tVar j) tNil)) tNil))) tNil)) D σ H := by
  unfold tBM
  walk_at "run"
  have hS : SqL K H a xs := .inl (.inl ha)
  refine ⟨_, ei, ty_list (.inl (.inl hh)), _, ej, _, ej, _, rfl, _, .inl hS, fun b hb => ⟨sizes (by decide), fun w hw => ?_⟩⟩
  have s1 := same_new (o := .lst xs) hb
  have s2 := same_new (o := .lst [.ref a, .ref b]) hw
  exact ⟨h, _, _, rfl, rfl, s2 _ _ (s1 _ _ hh), sizel hl, k _ w b (s1.trans s2) (s1.free hw) hb upd_same (s2 _ _ (s1 _ _ ha)) (s2 _ _ upd_same)⟩
theorem len_law_look (h : sp_law_look K C vs H Q E) : vs.length = (["_law_house_here", "_law_there", "_law_guest_here", "_law_turn", "_law_held"] : List Str).length := by
  unfold sp_law_look at h
  repeat (obtain ⟨_, h⟩ := h)
  subst_vars; rfl
theorem pure_law_look (XF : Facts K C) (XH : HF K C.cHouse) (h : sp_law_look K C vs H Q E) : t_law_look K C E { nx := fun _ H' => Q .non H', rt := Q } (start ["_law_house_here", "_law_there", "_law_guest_here", "_law_turn", "_law_held", "_law_seats", "_law_k", "_law_way", "_law_found", "_law_at_here"] vs) H := by
  obtain ⟨p, d, h, M, s, n, f, gs, g, t, hs, rfl, hH, hd, h64, hG, t0, t4, hh, hns, hhl, q⟩ := h
  obtain ⟨dx, hp⟩ := hH.hp
  have n2 := hH.n2
  have n3 := hH.n3
  have hn := hm_lt (n := n) (by omega)
  have hpd : p ≠ h := fun z => by rw [z, hh] at hp; cases hp
  have hdh : d ≠ h := fun z => by rw [z, hh] at hd; cases hd
  show tSeq _ _ _ [some (.ref p), some (.ref d), some (.int g), some (.int t), some (.ref h), none, none, none, none, none] H
  refine asg_any (fun v H' => ∃ r, v = .ref r ∧ H r = none ∧ H' = upd H r (.lst (row n f))) (fun R r => ?_) ?_
  · walk_at "run"
    refine ⟨_, _, hp, rfl, ?_⟩
    unfold sp_House_row
    exact ⟨p, M, s, n, f, gs, rfl, hH.toHs0, fun e he => r _ _ ⟨e, rfl, he, rfl⟩⟩
  rintro _ _ ⟨r, rfl, hr, rfl⟩
  have s1 := same_new (o := .lst (row n f)) hr
  obtain ⟨H1, eH1⟩ : ∃ H1, H1 = upd H r (.lst (row n f)) := ⟨_, rfl⟩
  have hr1 : H1 r = some (.lst (row n f)) := by rw [eH1, upd_same]
  rw [← eH1] at s1 ⊢
  have hrh : r ≠ h := fun z => by rw [z, hh] at hr; cases hr
  walk_at "nxt"
  refine if_ext (b := false) (fun R r1 => ?_) (fun z => nomatch z) (fun _ H2 s2 => ?_)
  · walk_at "run"
    refine ⟨_, s1 _ _ hd, ?_⟩
    unfold sp_law_room
    have hlM := hH.lM
    have hM := hH.M3
    refine ⟨_, rfl, by rw [dG_len]; omega, by rw [dG_len]; omega, ?_⟩
    rw [dG_len, ← hH.rm]
    refine ⟨_, s1 _ _ hd, fun l hl => ?_⟩
    rw [dG_keys]
    have s3 := same_new (o := .lst (gs.map V.int)) hl
    unfold sp_law_settled
    exact ⟨r, l, n, f, gs, rfl, s3 _ _ hr1, .inl (.inl upd_same), n3, hH.S.P, hH.S.e (by omega), hH.S.perm (by omega), fun H' s4 => ⟨_, rfl, r1 _ (s3.trans s4)⟩⟩
  walk_at "nxt"
  refine for_rng1 (n := 4) (j := 4) (H' := H2) (fun R r => r) rfl (by omega) (fun k σ H' => ∃ (x6 x7 x8 x9 : Option V) (ws : List V), σ = [some (.ref p), some (.ref d), some (.int g), some (.int t), some (.ref h), some (.ref r), x6, x7, x8, x9] ∧ Off h H1 H' ∧ H' h = some (.lst (hs ++ ws)) ∧ ws.length ≤ k ∧ ∀ w ∈ ws, Kp H1 H' w)
    ⟨_, _, _, _, [], rfl, Off.same s2, by rw [List.append_nil]; exact s2 _ _ (s1 _ _ hh), Nat.le_refl _, fun w z => nomatch z⟩ ?_ ?_
  · rintro k σ H3 hk ⟨x6, x7, x8, x9, ws, rfl, o3, hh3, hwl, hw⟩
    have hp3 := o3 _ _ hpd (s1 _ _ hp)
    have hd3 := o3 _ _ hdh (s1 _ _ hd)
    have hr3 := o3 _ _ hrh hr1
    have hH3 : Hs0 C H3 p M s n f gs := ⟨⟨dx, hp3⟩, o3 _ _ hns.symm (s1 _ _ hH.hs), hH.S, n2, n3⟩
    obtain ⟨w, ew⟩ : ∃ w, w = ((k : Int) + t) % 4 := ⟨_, rfl⟩
    unfold t_law_look_b1
    refine asg_step (v := .int w) (H' := H3) (fun R r => ?_) ?_
    · walk_at "run"; rw [← ew]; exact r
    walk_at "nxt"
    refine if_ext (b := false) (fun R r1 => ?_) (fun z => nomatch z) (fun _ H4 s4 => ?_)
    · walk_at "run"
      by_cases e0 : w = 0
      · rw [if_pos (by simpa using e0)]
        refine ⟨_, _, hp3, rfl, ?_⟩
        unfold sp_House_row
        refine ⟨p, M, s, n, f, gs, rfl, hH3, fun l hl => ?_⟩
        exact neD_lst (.inl (.inl upd_same)) (.inl (.inl (same_new hl _ _ hr3))) row_flD ⟨_, rfl, r1 _ (same_new hl)⟩
      · rw [if_neg (by simpa using e0)]; exact r1 _ (Same.refl _)
    have hp4 := s4 _ _ hp3
    have hd4 := s4 _ _ hd3
    have hr4 := s4 _ _ hr3
    have hh4 := s4 _ _ hh3
    have hH4 := hH3.same s4
    have o4 : Off h H1 H4 := o3.trans (Off.same s4)
    have hw4 : ∀ w ∈ ws, Kp H1 H4 w := fun w z => (hw w z).to fun b o _ ho => s4 _ _ ho
    walk_at "nxt"
    refine if_step (b := false) (H' := H4) (fun R r1 => ?_) (fun z => nomatch z) (fun _ => ?_)
    · walk_at "run"
      by_cases e0 : w = 1
      · rw [if_pos (by simpa using e0)]
        refine ⟨_, _, hp4, rfl, ?_⟩
        unfold sp_House_many
        refine ⟨p, M, s, n, f, gs, rfl, hH4, ?_⟩
        unfold sp_law_whole
        refine ⟨_, .int, rfl, rfl, _, rfl, ?_⟩
        rw [if_neg (by simp [isWh])]
        refine ⟨_, _, hp4, rfl, p, M, s, n, f, gs, rfl, hH4, _, hd4, ?_⟩
        rw [dG_len]; simpa using r1
      · rw [if_neg (by simpa using e0)]; exact r1
    walk_at "nxt"
    by_cases e2 : w = 2
    · refine if_step (b := true) (H' := H4) (fun R r1 => ?_) (fun _ => ?_) (fun z => nomatch z)
      · walk_at "run"; rw [e2]; exact r1
      refine asg_any (fun v H' => ∃ (l : Addr) (ys : List Int), v = .ref l ∧ Same H4 H' ∧ H4 l = none ∧ H' l = some (.lst (ys.map V.int)) ∧ ys.Perm gs ∧ ys.Pairwise (· ≤ ·)) (fun R r1 => ?_) ?_
      · walk_at "run"
        refine ⟨_, _, hp4, rfl, ?_⟩
        unfold sp_House_guests
        exact ⟨p, M, s, n, f, gs, rfl, hH4, fun H' l ys sm hl hys pm so => r1 _ _ ⟨l, ys, rfl, sm, hl, hys, pm, so⟩⟩
      rintro _ H5 ⟨l, ys, rfl, s5, hl, hys, pm, so⟩
      walk_at "nxt"
      refine if_ext (b := false) (fun R r1 => ?_) (fun z => nomatch z) (fun _ H6 s6 => ?_)
      · walk_at "run"
        refine ⟨d, _, gs, rfl, .inl (s5 _ _ hd4), by unfold dG; rw [List.map_map]; rfl, h64, fun zs l2 pm2 so2 hl2 => ?_⟩
        have e := sorted_one pm pm2 so so2 (List.Perm.refl _)
        subst e
        unfold sp_law_numbers
        exact ⟨l, l2, ys, rfl, same_new hl2 _ _ hys, upd_same, fun H' s' => ⟨_, rfl, r1 _ ((same_new hl2).trans s')⟩⟩
      walk_at "nxt"
      have hlh : l ≠ h := fun z => by rw [z, hh4] at hl; cases hl
      have hl1 : H1 l = none := by
        cases z : H1 l with
        | none => rfl
        | some o => rw [o4 _ _ hlh z] at hl; cases hl
      refine hold (i := 4) (j := 8) rfl rfl (s6 _ _ (s5 _ _ hh4)) (by rw [List.length_append]; omega) (s6 _ _ hys) ints_flD hlh fun H7 w2 b2 s7 hw2 hb2 e1 e2' e3 => ?_
      have s47 : Same H4 H7 := s5.trans (s6.trans s7)
      have f1 : ∀ b, H6 b = none → H1 b = none := fun b hb => by
        have hb4 := (s5.trans s6).free hb
        cases z : H1 b with
        | none => rfl
        | some o => rw [o4 _ _ (fun z => by rw [z, hh4] at hb4; cases hb4) z] at hb4; cases hb4
      walk_at "nxt"
      refine if_step (b := false) (H' := upd H7 h (.lst (hs ++ ws ++ [.ref w2]))) (fun R r1 => ?_) (fun z => nomatch z) (fun _ => ?_)
      · walk_at "run"; rw [e2]; exact r1
      refine ⟨_, _, _, _, ws ++ [.ref w2], rfl, o4.trans ((Off.same s47).trans Off.upd), by rw [upd_same, List.append_assoc], by rw [List.length_append]; simp; omega, ?_⟩
      refine kp_push (s1 _ _ hh) fun v hv => ?_
      rcases List.mem_append.mp hv with hv | hv
      · exact (hw4 v hv).to fun b o _ ho => s47 _ _ ho
      · rw [List.mem_singleton.mp hv]
        exact kp_mk (f1 _ hw2) hl1 (f1 _ hb2) e1 e2' e3 ints_flD
    · refine if_step (b := false) (H' := H4) (fun R r1 => ?_) (fun z => nomatch z) (fun _ => ?_)
      · walk_at "run"; rw [decide_eq_false (by simpa using e2)]; exact r1
      walk_at "nxt"
      by_cases e3 : w = 3
      · refine if_step (b := true) (H' := H4) (fun R r1 => ?_) (fun _ => ?_) (fun z => nomatch z)
        · walk_at "run"; rw [e3]; exact r1
        refine asg_any (fun v H' => Same H4 H' ∧ ∃ q : Nat, q < n ∧ Ring.Loc n (hm n) f g q ∧ v = if f q = some g then .int q else .non) (fun R r1 => ?_) ?_
        · walk_at "run"
          refine ⟨_, _, hp4, rfl, ?_⟩
          unfold sp_House_seat_of
          refine ⟨p, M, s, n, f, gs, _, .int, rfl, hH4, rfl, (fun z => by rw [hG] at z; cases z), fun g' e _ H' q sm hq l => ?_⟩
          cases e
          exact r1 _ _ ⟨sm, q, hq, l, rfl⟩
        rintro v H5 ⟨s5, qq, hq, l, hv⟩
        walk_at "nxt"
        refine if_step (b := false) (H' := H5) (fun R r1 => ?_) (fun z => nomatch z) (fun _ => ⟨_, _, _, _, ws, rfl, o4.trans (Off.same s5), s5 _ _ hh4, by omega, fun w z => (hw4 w z).to fun b o _ ho => s5 _ _ ho⟩)
        by_cases st : f qq = some g
        · rw [if_pos st] at hv
          subst hv
          walk_at "run"
          unfold sp_law_at
          refine ⟨r, n, f, gs, g, qq, rfl, .inl (.inl (s5 _ _ hr4)), hH.S, by omega, hq, l, ?_⟩
          rw [if_pos st]
          walk_at "run"
          unfold sp_law_whole
          walk_at "run"
          exact r1
        · rw [if_neg st] at hv
          subst hv
          walk_at "run"
          unfold sp_law_at
          refine ⟨r, n, f, gs, g, qq, rfl, .inl (.inl (s5 _ _ hr4)), hH.S, by omega, hq, l, ?_⟩
          rw [if_neg st]
          walk_at "run"
          exact r1
      · refine if_step (b := false) (H' := H4) (fun R r1 => ?_) (fun z => nomatch z) (fun _ => ⟨_, _, _, _, ws, rfl, o4, hh4, by omega, hw4⟩)
        walk_at "run"; rw [decide_eq_false (by simpa using e3)]; exact r1
  rintro σ H3 ⟨x6, x7, x8, x9, ws, rfl, o3, hh3, hwl, hw⟩
  have hp3 := o3 _ _ hpd (s1 _ _ hp)
  have hr3 := o3 _ _ hrh hr1
  have hH3 : Hs0 C H3 p M s n f gs := ⟨⟨dx, hp3⟩, o3 _ _ hns.symm (s1 _ _ hH.hs), hH.S, n2, n3⟩
  walk_at "nxt"
  refine if_step (b := decide (t = 3)) (H' := H3) (fun R r1 => ?_) (fun e => ?_) (fun e => ?_)
  · walk_at "run"; simpa using r1
  · refine drop_any (fun v H' => H' = upd H3 r (.lst [])) (fun R r1 => ?_) ?_
    · walk_at "run"
      exact ⟨ty_list (.inl (.inl hr3)), _, _, rfl, rfl, hr3, r1 _ _ rfl⟩
    rintro _ _ rfl
    have hrs : s ≠ r := fun z => by have := hH.hs; rw [z, hr] at this; cases this
    have hrp : p ≠ r := fun z => by rw [z, hr] at hp; cases hp
    have hH4 : Hs0 C (upd H3 r (.lst [])) p M s n f gs := ⟨⟨dx, by rw [upd_ne hrp]; exact hp3⟩, by rw [upd_ne hrs]; exact hH3.hs, hH.S, n2, n3⟩
    obtain ⟨dx4, hp4⟩ := hH4.hp
    walk_at "nxt"
    refine drop_any (fun v H' => Same (upd H3 r (.lst [])) H') (fun R r1 => ?_) ?_
    · unfold tBM
      walk_at "run"
      refine ⟨_, _, hp4, rfl, ?_⟩
      unfold sp_House_guests
      refine ⟨p, M, s, n, f, gs, rfl, hH4, fun H5 l ys s5 hl hys pm so => ⟨ty_list (.inl (.inl hys)), l, _, _, rfl, rfl, hys, sizel ?_, r1 _ _ fun b o ho => ?_⟩⟩
      · rw [List.length_map, pm.length_eq]; omega
      · rw [upd_ne (fun z => by rw [z, hl] at ho; cases ho)]; exact s5 _ _ ho
    rintro _ H5 s5
    walk_at "nxt"
    walk_at "run"
    refine q _ ws (fun b o hb ho => s5 _ _ ?_) (s5 _ _ (by rw [upd_ne hrh.symm]; exact hh3)) (by omega) fun v hv => ((hw v hv).to fun b o hb ho => s5 _ _ ?_).old s1
    · rw [upd_ne (fun z => by rw [z, hr] at ho; cases ho)]; exact o3 _ _ hb (s1 _ _ ho)
    · rw [upd_ne (fun z => by rw [z, hr1] at hb; cases hb)]; exact ho
  · refine hold (i := 4) (j := 5) rfl rfl hh3 (by rw [List.length_append]; omega) hr3 row_flD hrh fun H7 w2 b2 s7 hw2 hb2 e1 e2' e3 => ?_
    walk_at "nxt"
    walk_at "run"
    have f1 : ∀ b, H3 b = none → H b = none := fun b hb => by
      refine s1.free ?_
      cases z : H1 b with
      | none => rfl
      | some o => rw [o3 _ _ (fun z => by rw [z, hh3] at hb; cases hb) z] at hb; cases hb
    refine q _ (ws ++ [.ref w2]) ((Off.same s1).trans (o3.trans ((Off.same s7).trans Off.upd))) (by rw [upd_same, List.append_assoc]) (by rw [List.length_append]; simp; omega) ?_
    refine kp_push hh fun v hv => ?_
    rcases List.mem_append.mp hv with hv | hv
    · exact ((hw v hv).old s1).to fun b o _ ho => s7 _ _ ho
    · rw [List.mem_singleton.mp hv]
      exact kp_mk (f1 _ hw2) hr (f1 _ hb2) e1 e2' e3 row_flD
theorem len_law_deed (h : sp_law_deed K C vs H Q E) : vs.length = (["_law_house_here", "_law_there", "_law_most_here", "_law_guest_here", "_law_comes"] : List Str).length := by
  unfold sp_law_deed at h
  repeat (obtain ⟨_, h⟩ := h)
  subst_vars; rfl
theorem pure_law_deed (XF : Facts K C) (XH : HF K C.cHouse) (h : sp_law_deed K C vs H Q E) : t_law_deed K C E { nx := fun _ H' => Q .non H', rt := Q } (start ["_law_house_here", "_law_there", "_law_most_here", "_law_guest_here", "_law_comes", "_law_seats", "_law_found"] vs) H := by
  obtain ⟨p, d, M, s, n, f, gs, g, b, rfl, hH, hd, hG, q⟩ := h
  obtain ⟨dx, hp⟩ := hH.hp
  have n2 := hH.n2
  have n3 := hH.n3
  have hn := hm_lt (n := n) (by omega)
  have lM := hH.lM
  have hM := hH.M3
  have hpd : d ≠ p := fun z => by rw [z, hp] at hd; cases hd
  have hds : d ≠ s := fun z => by have := hH.hs; rw [← z, hd] at this; cases this
  show tSeq _ _ _ [some (.ref p), some (.ref d), some (.int M), some (.int g), some (.bl b), none, none] H
  refine asg_any (fun v H' => ∃ r, v = .ref r ∧ H r = none ∧ H' = upd H r (.lst (row n f))) (fun R r => ?_) ?_
  · walk_at "run"
    refine ⟨_, _, hp, rfl, ?_⟩
    unfold sp_House_row
    exact ⟨p, M, s, n, f, gs, rfl, hH.toHs0, fun e he => r _ _ ⟨e, rfl, he, rfl⟩⟩
  rintro _ _ ⟨r, rfl, hr, rfl⟩
  have s1 := same_new (o := .lst (row n f)) hr
  obtain ⟨H1, eH1⟩ : ∃ H1, H1 = upd H r (.lst (row n f)) := ⟨_, rfl⟩
  have hr1 : H1 r = some (.lst (row n f)) := by rw [eH1, upd_same]
  rw [← eH1] at s1 ⊢
  have hrp : r ≠ p := fun z => by rw [z, hp] at hr; cases hr
  have hrd : r ≠ d := fun z => by rw [z, hd] at hr; cases hr
  have hrs : r ≠ s := fun z => by have := hH.hs; rw [← z, hr] at this; cases this
  have hH1 := hH.same s1
  have hd1 := s1 _ _ hd
  have DG : ∀ {H'} {gs'}, H' d = some (.dK (dG gs')) → ∃ o, DGet H' d (.int g) o ∧ o.isSome = decide (g ∈ gs') := fun h => ⟨_, DGet.k (k := .inl g) h, dG_val⟩
  -- what a refusal ends with
  have same : ∀ (te : TE) (ls : List V) (H2 : Hp) (e : Addr) (h6 : Option V), Same H1 H2 → H2 e = some (.lst ls) → ls.all flD = true →
      (∀ R : VK, (∀ H3 e', Same H2 H3 → H3 e' = some (.lst ls) → R (.ref e') H3) → te [some (.ref p), some (.ref d), some (.int M), some (.int g), some (.bl b), some (.ref r), some (.ref e)] H2 R) →
      tRet (tAndV (tOp (rEqD K) (tVar 6) te) (tOp (rEqD K) (tMeth C.cHouse "row" (sp_House_row K C) [] E0 (tVar 0) tNil) (tVar 5))) { nx := fun _ H' => Q .non H', rt := Q }
        [some (.ref p), some (.ref d), some (.int M), some (.int g), some (.bl b), some (.ref r), some (.ref e)] H2 := fun te ls H2 e h6 s2 he fl hte => by
    simp only [tRet, tAndV, tOp]
    refine ⟨.ref e, rfl, ?_⟩
    refine hte _ fun H3 e' s3 he' => ?_
    refine eqD_lst (.inl (.inl (s3 _ _ he))) (.inl (.inl he')) fl ⟨true, rfl, ?_⟩
    rw [if_pos rfl]
    have s13 := s2.trans s3
    walk_at "run"
    refine ⟨_, _, s13 _ _ (s1 _ _ hp), rfl, ?_⟩
    unfold sp_House_row
    refine ⟨p, M, s, n, f, gs, rfl, hH1.toHs0.same s13, fun l hl => ?_⟩
    refine eqD_lst (.inl (.inl upd_same)) (.inl (.inl (same_new hl _ _ (s13 _ _ hr1)))) row_flD ?_
    have s4 := (s1.trans s13).trans (same_new (o := .lst (row n f)) hl)
    exact q _ s n f gs (fun b o _ _ _ ho => s4 _ _ ho) (.inl rfl) (hH.same s4) (s4 _ _ hd) (by omega) hH.S.g
  walk_at "nxt"
  refine asg_any (fun v H' => (b = true ∧ g ∈ gs ∧ ∃ e, v = .ref e ∧ Same H1 H' ∧ H' e = some (.lst [.bl true, .bl false, .bl false])) ∨ (b = true ∧ g ∉ gs ∧ M ≤ gs.length ∧ ∃ e, v = .ref e ∧ Same H1 H' ∧ H' e = some (.lst [.bl false, .bl true, .bl false])) ∨
      (b = true ∧ g ∉ gs ∧ gs.length < M ∧ ∃ (s' : Addr) (n' : Nat) (f' : Nat → Option Int) (qq : Nat), v = .int qq ∧ Off2 p s H1 H' ∧ (s' = s ∨ H1 s' = none) ∧ Hs C H' p M s' n' f' (gs ++ [g]) ∧ qq < n' ∧ f' qq = some g) ∨
      (b = false ∧ g ∉ gs ∧ ∃ e, v = .ref e ∧ Same H1 H' ∧ H' e = some (.lst [.bl false, .bl false, .bl true])) ∨
      (b = false ∧ g ∈ gs ∧ ∃ (s' : Addr) (n' : Nat) (f' : Nat → Option Int) (qq : Nat), v = .int qq ∧ Off2 p s H1 H' ∧ (s' = s ∨ H1 s' = none) ∧ Hs C H' p M s' n' f' (offG gs g) ∧ qq < n ∧ f qq = some g)) (fun R r1 => ?_) ?_
  · walk_at "run"
    unfold sp_law_done
    refine ⟨p, M, s, n, f, gs, g, b, rfl, hH1, hG, fun eb => ⟨fun st H2 e s2 he => r1 _ _ (.inl ⟨eb, st, e, rfl, s2, he⟩), fun st l H2 e s2 he => r1 _ _ (.inr (.inl ⟨eb, st, l, e, rfl, s2, he⟩)), fun st l H2 s' n' f' qq o2 hs' h2 hq hf => r1 _ _ (.inr (.inr (.inl ⟨eb, st, l, s', n', f', qq, rfl, o2, hs', h2, hq, hf⟩)))⟩,
      fun eb => ⟨fun st H2 e s2 he => r1 _ _ (.inr (.inr (.inr (.inl ⟨eb, st, e, rfl, s2, he⟩)))), fun st H2 s' n' f' qq o2 hs' h2 hq hf => r1 _ _ (.inr (.inr (.inr (.inr ⟨eb, st, s', n', f', qq, rfl, o2, hs', h2, hq, hf⟩))))⟩⟩
  rintro v H2 (⟨rfl, st, e, rfl, s2, he⟩ | ⟨rfl, st, l, e, rfl, s2, he⟩ | ⟨rfl, st, l, s', n', f', qq, rfl, o2, hs', h2, hq, hf⟩ | ⟨rfl, st, e, rfl, s2, he⟩ | ⟨rfl, st, s', n', f', qq, rfl, o2, hs', h2, hq, hf⟩)
  · obtain ⟨o, g1, g2⟩ := DG (s2 _ _ hd1)
    rw [decide_eq_true st] at g2
    walk_at "nxt"
    refine if_step (b := true) (H' := H2) (fun R r1 => ?_) (fun _ => ?_) (fun z => nomatch z)
    · walk_at "run"; exact ⟨_, g1, by rw [g2]; exact r1⟩
    refine same _ _ H2 e none s2 he rfl fun R r1 => ?_
    walk_at "run"
    exact ⟨sizes (by decide), fun l hl => r1 _ _ (same_new hl) upd_same⟩
  · obtain ⟨o, g1, g2⟩ := DG (s2 _ _ hd1)
    rw [decide_eq_false st] at g2
    walk_at "nxt"
    refine if_step (b := false) (H' := H2) (fun R r1 => ?_) (fun z => nomatch z) (fun _ => ?_)
    · walk_at "run"; exact ⟨_, g1, by rw [g2]; exact r1⟩
    walk_at "nxt"
    refine if_step (b := true) (H' := H2) (fun R r1 => ?_) (fun _ => ?_) (fun z => nomatch z)
    · walk_at "run"
      refine ⟨_, s2 _ _ hd1, ?_⟩
      rw [dG_len, decide_eq_true (by omega)]; exact r1
    refine same _ _ H2 e none s2 he rfl fun R r1 => ?_
    walk_at "run"
    exact ⟨sizes (by decide), fun l hl => r1 _ _ (same_new hl) upd_same⟩
  · have hd2 := o2 _ _ hpd hds hd1
    have hr2 := o2 _ _ hrp hrs hr1
    obtain ⟨o, g1, g2⟩ := DG hd2
    rw [decide_eq_false st] at g2
    walk_at "nxt"
    refine if_step (b := false) (H' := H2) (fun R r1 => ?_) (fun z => nomatch z) (fun _ => ?_)
    · walk_at "run"; exact ⟨_, g1, by rw [g2]; exact r1⟩
    walk_at "nxt"
    refine if_step (b := false) (H' := H2) (fun R r1 => ?_) (fun z => nomatch z) (fun _ => ?_)
    · walk_at "run"
      refine ⟨_, hd2, ?_⟩
      rw [dG_len, decide_eq_false (by omega)]; exact r1
    walk_at "nxt"
    refine if_step (b := false) (H' := H2) (fun R r1 => ?_) (fun z => nomatch z) (fun _ => ?_)
    · walk_at "run"; exact r1
    walk_at "nxt"
    refine if_step (b := false) (H' := H2) (fun R r1 => ?_) (fun z => nomatch z) (fun _ => ?_)
    · walk_at "run"; unfold sp_law_whole; walk_at "run"; exact r1
    walk_at "nxt"
    refine if_step (b := true) (H' := H2) (fun R r1 => ?_) (fun _ => ?_) (fun z => nomatch z)
    · walk_at "run"; exact r1
    refine dput_step (v := .bl true) (d := d) (kvs := dG gs) (k := .inl g) (H' := H2) (fun R h => h) (fun R h => ⟨_, rfl, h⟩) (fun R h => ⟨_, rfl, h⟩) hd2 (sizel (by rw [dG_len]; omega)) ?_
    rw [dG_put st]
    have hds' : d ≠ s' := fun z => by
      rcases hs' with w | w
      · exact hds (z.trans w)
      · rw [← z, hd1] at w; cases w
    have h3 : Hs C (upd H2 d (.dK (dG (gs ++ [g])))) p M s' n' f' (gs ++ [g]) := by
      obtain ⟨dx2, hp2⟩ := h2.hp
      exact ⟨⟨⟨dx2, by rw [upd_ne hpd.symm]; exact hp2⟩, by rw [upd_ne hds'.symm]; exact h2.hs, h2.S, h2.n2, h2.n3⟩, h2.rm, h2.lM, h2.M3⟩
    obtain ⟨dx3, hp3⟩ := h3.hp
    walk_at "nxt"
    refine asg_any (fun v H' => ∃ r', v = .ref r' ∧ Same (upd H2 d (.dK (dG (gs ++ [g])))) H' ∧ H' r' = some (.lst (row n' f'))) (fun R r1 => ?_) ?_
    · walk_at "run"
      refine ⟨_, _, hp3, rfl, ?_⟩
      unfold sp_House_row
      exact ⟨p, M, s', n', f', _, rfl, h3.toHs0, fun e he => r1 _ _ ⟨e, rfl, same_new he, upd_same⟩⟩
    rintro _ H4 ⟨r', rfl, s4, hr'⟩
    have hS' : SqL K H4 r' (row n' f') := .inl (.inl hr')
    walk_at "nxt"
    walk_at "run"
    rw [if_pos (by omega)]
    refine ⟨_, .inl hS', ?_⟩
    rw [row_len, if_pos (by omega)]
    refine ⟨_, hS', _, row_at hq, ?_⟩
    rw [hf]
    refine ⟨rfl, ?_⟩
    rw [show decide (ov (some g) = V.int g) = true from decide_eq_true rfl]
    exact q H4 s' n' f' _ (fun b o hb hb2 hb3 ho => s4 _ _ (by rw [upd_ne hb3]; exact o2 _ _ hb hb2 (s1 _ _ ho))) (hs'.imp id fun z => s1.free z) (h3.same s4) (s4 _ _ upd_same) (by rw [List.length_append]; exact Nat.le_refl _) h3.S.g
  · obtain ⟨o, g1, g2⟩ := DG (s2 _ _ hd1)
    rw [decide_eq_false st] at g2
    walk_at "nxt"
    refine if_step (b := false) (H' := H2) (fun R r1 => ?_) (fun z => nomatch z) (fun _ => ?_)
    · walk_at "run"; exact r1
    walk_at "nxt"
    refine if_step (b := false) (H' := H2) (fun R r1 => ?_) (fun z => nomatch z) (fun _ => ?_)
    · walk_at "run"; exact r1
    walk_at "nxt"
    refine if_step (b := true) (H' := H2) (fun R r1 => ?_) (fun _ => ?_) (fun z => nomatch z)
    · walk_at "run"; exact ⟨_, g1, by rw [g2]; exact r1⟩
    refine same _ _ H2 e none s2 he rfl fun R r1 => ?_
    walk_at "run"
    exact ⟨sizes (by decide), fun l hl => r1 _ _ (same_new hl) upd_same⟩
  · have hd2 := o2 _ _ hpd hds hd1
    have hr2 := o2 _ _ hrp hrs hr1
    obtain ⟨o, g1, g2⟩ := DG hd2
    rw [decide_eq_true st] at g2
    walk_at "nxt"
    refine if_step (b := false) (H' := H2) (fun R r1 => ?_) (fun z => nomatch z) (fun _ => ?_)
    · walk_at "run"; exact r1
    walk_at "nxt"
    refine if_step (b := false) (H' := H2) (fun R r1 => ?_) (fun z => nomatch z) (fun _ => ?_)
    · walk_at "run"; exact r1
    walk_at "nxt"
    refine if_step (b := false) (H' := H2) (fun R r1 => ?_) (fun z => nomatch z) (fun _ => ?_)
    · walk_at "run"; exact ⟨_, g1, by rw [g2]; exact r1⟩
    walk_at "nxt"
    refine if_step (b := false) (H' := H2) (fun R r1 => ?_) (fun z => nomatch z) (fun _ => ?_)
    · walk_at "run"; unfold sp_law_whole; walk_at "run"; exact r1
    walk_at "nxt"
    refine if_step (b := false) (H' := H2) (fun R r1 => ?_) (fun z => nomatch z) (fun _ => ?_)
    · walk_at "run"; exact r1
    walk_at "nxt"
    refine drop_any (fun v H' => H' = upd H2 d (.dK (dG (offG gs g)))) (fun R r1 => ?_) ?_
    · unfold tDPop1
      walk_at "run"
      obtain ⟨v, hv⟩ := Option.isSome_iff_exists.mp ((dG_val (gs := gs) (g := g)).trans (decide_eq_true st))
      exact ⟨.inl ⟨_, .inl hd2⟩, _, hd2, .inl g, rfl, v, hv, by rw [dG_drop]; exact r1 _ _ rfl⟩
    rintro _ _ rfl
    have hds' : d ≠ s' := fun z => by
      rcases hs' with w | w
      · exact hds (z.trans w)
      · rw [← z, hd1] at w; cases w
    have h3 : Hs C (upd H2 d (.dK (dG (offG gs g)))) p M s' n' f' (offG gs g) := by
      obtain ⟨dx2, hp2⟩ := h2.hp
      exact ⟨⟨⟨dx2, by rw [upd_ne hpd.symm]; exact hp2⟩, by rw [upd_ne hds'.symm]; exact h2.hs, h2.S, h2.n2, h2.n3⟩, h2.rm, h2.lM, h2.M3⟩
    obtain ⟨dx3, hp3⟩ := h3.hp
    have hr3 : (upd H2 d (.dK (dG (offG gs g)))) r = some (.lst (row n f)) := by rw [upd_ne hrd]; exact hr2
    walk_at "nxt"
    unfold tRet tAndV tBM
    walk_at "run"
    refine ⟨ty_list (.inl (.inl hr3)), r, _, _, qq, _, rfl, rfl, .inl (.inl hr3), rfl, row_flat, row_get hq, by rw [hf]; exact decide_eq_true rfl, fun m z hmq hz => ?_, ?_⟩
    · obtain ⟨hmn, rfl⟩ := row_some hz
      cases e : f m with
      | none => rfl
      | some y =>
        refine decide_eq_false fun w => ?_
        rw [w] at e
        have := Ring.path_one hn hH.S.P hmn hq e hf
        omega
    refine ⟨rfl, ?_⟩
    rw [if_pos rfl]
    refine ⟨_, _, hp3, rfl, ?_⟩
    unfold sp_House_seat_of
    refine ⟨p, M, s', n', f', _, _, .int, rfl, h3.toHs0, rfl, (fun z => by rw [hG] at z; cases z), fun g' e _ H4 q2 s4 hq2 l2 => ?_⟩
    cases e
    rw [if_neg (fun z => (offG_mem.mp ((h3.S.st g).mp ⟨q2, hq2, z⟩)).2 rfl)]
    have hl := offG_len hH.S.nd st
    exact q H4 s' n' f' _ (fun b o hb hb2 hb3 ho => s4 _ _ (by rw [upd_ne hb3]; exact o2 _ _ hb hb2 (s1 _ _ ho))) (hs'.imp id fun z => s1.free z) (h3.same s4) (s4 _ _ upd_same) (by omega) h3.S.g
theorem len_law (h : sp_law K C vs H Q E) : vs.length = (["_law_script"] : List Str).length := by
  unfold sp_law sp_law0 at h
  repeat (obtain ⟨_, h⟩ := h)
  subst_vars; rfl
theorem pure_law (XF : Facts K C) (XH : HF K C.cHouse) (h : sp_law K C vs H Q E) : t_law K C E { nx := fun _ H' => Q .non H', rt := Q } (start ["_law_script", "_law_base_here", "_law_sizes", "_law_houses", "_law_there", "_law_held", "_law_k", "_law_cell", "_law_at_here", "_law_way", "_law_guest_here", "_law_some", "_law_most_here", "_law_turn", "_law_found", "_law_kept"] vs) H := by
  obtain ⟨a, ns, rfl, hS, hl, q⟩ := h
  show tSeq _ _ _ [some (.ref a), none, none, none, none, none, none, none, none, none, none, none, none, none, none, none] H
  obtain ⟨b, hb⟩ : ∃ b, b = baseI (cellI ns 0) := ⟨_, rfl⟩
  have hb0 : 0 ≤ b ∧ b < 10000000000000000000000000000000000000000000000000000000000 := by rw [hb]; exact baseI_ok _
  refine asg_step (v := .int b) (H' := H) (fun R h => ?_) ?_
  · walk_at "run"; unfold sp_law_base sp_law_cell_at; walk_at "run"; exact ⟨ns, hS, by rw [← hb]; exact h⟩
  walk_at "nxt"
  obtain ⟨c, hc⟩ : ∃ c : Nat → Int, c = fun i => if i = 0 then cellI ns 1 else cellI ns 2 := ⟨_, rfl⟩
  have c0 : c 0 = cellI ns 1 := by rw [hc]; rfl
  have c1 : c 1 = cellI ns 2 := by rw [hc]; rfl
  refine asg_any (fun v H' => ∃ z, v = .ref z ∧ Same H H' ∧ H' z = some (.lst [.int (c 0), .int (c 1)])) (fun R h => ?_) ?_
  · walk_at "run"; unfold sp_law_cell_at; walk_at "run"
    refine ⟨ns, hS, ns, hS, sizes (by decide), fun z hz => h _ _ ⟨z, rfl, same_new hz, ?_⟩⟩
    rw [upd_same, c0, c1]
  rintro _ H1 ⟨z, rfl, s1, hz1⟩
  walk_at "nxt"
  refine asg_any (fun v H' => ∃ (a3 : Addr) (p s : Nat → Addr) (M : Nat → Nat), v = .ref a3 ∧ Same H1 H' ∧ H' a3 = some (.lst [.ref (p 0), .ref (p 1)]) ∧ (∀ i, i < 2 → mostI (c i) = (M i : Int) ∧ Hs C H' (p i) (M i) (s i) 8 (fun _ => none) []) ∧ p 0 ≠ p 1 ∧ s 0 ≠ s 1 ∧ (∀ i, i < 2 → a3 ≠ s i) ∧ ∀ i, i < 2 → H1 (s i) = none) (fun R h => ?_) ?_
  · walk_at "run"
    refine ⟨_, .inl (.inl hz1), _, two_at (x := fun i => .int (c i)) (i := 0) (by omega), ?_⟩
    unfold sp_law_house
    refine ⟨c 0, rfl, fun H2 p0 M0 s0 s2 m0 x0 hp0 hs0 => ?_⟩
    refine ⟨_, .inl (.inl (s2 _ _ hz1)), _, two_at (x := fun i => .int (c i)) (i := 1) (by omega), ?_⟩
    refine ⟨c 1, rfl, fun H3 p1 M1 s1' s3 m1 x1 hp1 hs1 => ?_⟩
    refine ⟨sizes (by decide), fun a3 h3 => ?_⟩
    have s4 := same_new (o := .lst [V.ref p0, V.ref p1]) h3
    have x0' := x0.same s3
    refine h _ _ ⟨a3, fun i => if i = 0 then p0 else p1, fun i => if i = 0 then s0 else s1', fun i => if i = 0 then M0 else M1, rfl, s2.trans (s3.trans s4), upd_same, fun i hi => ?_, ?_, ?_, fun i hi => ?_, fun i hi => ?_⟩
    · have : i = 0 ∨ i = 1 := by omega
      rcases this with rfl | rfl
      · exact ⟨m0, x0'.same s4⟩
      · exact ⟨m1, x1.same s4⟩
    · obtain ⟨dx, hp⟩ := x0.hp
      exact fun e => by have e : p0 = p1 := e; rw [e, hp1] at hp; cases hp
    · exact fun e => by have e : s0 = s1' := e; have := x0.hs; rw [e, hs1] at this; cases this
    · have : i = 0 ∨ i = 1 := by omega
      rcases this with rfl | rfl
      · exact fun e => by have e : a3 = s0 := e; have := x0'.hs; rw [← e, h3] at this; cases this
      · exact fun e => by have e : a3 = s1' := e; have := x1.hs; rw [← e, h3] at this; cases this
    · have : i = 0 ∨ i = 1 := by omega
      rcases this with rfl | rfl
      · exact hs0
      · exact s2.free hs1
  rintro _ H2 ⟨a3, p, s, M, rfl, s2, h3, hx, np, ns0, na3, fs⟩
  walk_at "nxt"
  refine asg_any (fun v H' => ∃ (a4 : Addr) (d : Nat → Addr), v = .ref a4 ∧ Same H2 H' ∧ H2 a4 = none ∧ H' a4 = some (.lst [.ref (d 0), .ref (d 1)]) ∧ (∀ i, i < 2 → H' (d i) = some (.dK (dG []))) ∧ d 0 ≠ d 1) (fun R h => ?_) ?_
  · walk_at "run"
    intro d0 hd0 d1 hd1
    refine ⟨sizes (by decide), fun a4 h4 => ?_⟩
    have t1 := same_new (o := .dK []) hd0
    have t2 := same_new (o := .dK []) hd1
    have t3 := same_new (o := .lst [V.ref d0, V.ref d1]) h4
    refine h _ _ ⟨a4, fun i => if i = 0 then d0 else d1, rfl, t1.trans (t2.trans t3), (t1.trans t2).free h4, upd_same, fun i hi => ?_, fun e => ?_⟩
    · have : i = 0 ∨ i = 1 := by omega
      rcases this with rfl | rfl
      · exact t3 _ _ (t2 _ _ upd_same)
      · exact t3 _ _ upd_same
    · have e : d0 = d1 := e
      rw [← e, upd_same] at hd1; cases hd1
  rintro _ H3 ⟨a4, d, rfl, s3, f4, h4, hd, nd⟩
  walk_at "nxt"
  refine asg_any (fun v H' => ∃ h, v = .ref h ∧ H3 h = none ∧ H' = upd H3 h (.lst [])) (fun R r => ?_) ?_
  · walk_at "run"
    exact ⟨sizes (by decide), fun h hh => r _ _ ⟨h, rfl, hh, rfl⟩⟩
  rintro _ _ ⟨h, rfl, hh, rfl⟩
  have s4 := same_new (o := .lst []) hh
  have two : ∀ {P : Nat → Prop}, P 0 → P 1 → ∀ i, i < 2 → P i := fun h0 h1 i hi => by
    have : i = 0 ∨ i = 1 := by omega
    rcases this with rfl | rfl
    · exact h0
    · exact h1
  have hx3 : ∀ i, i < 2 → Hs C H3 (p i) (M i) (s i) 8 (fun _ => none) [] := fun i hi => (hx i hi).2.same s3
  have L0 : Lw C (upd H3 h (.lst [])) [(z, [.int (c 0), .int (c 1)]), (a3, [.ref (p 0), .ref (p 1)]), (a4, [.ref (d 0), .ref (d 1)])] h p d s M (fun _ => 8) (fun _ _ => none) (fun _ => []) [] 0 0 := by
    refine ⟨fun w hw => ?_, upd_same, fun i hi => (hx3 i hi).same s4, fun i hi => s4 _ _ (hd i hi), fun i hi => Nat.le_refl _, Nat.le_refl _, (fun v hv => nomatch hv), fun i hi e => ?_, two_ne np, two_ne nd, two_ne ns0⟩
    · simp only [List.mem_cons, List.not_mem_nil, or_false] at hw
      rcases hw with rfl | rfl | rfl
      · refine ⟨s4 _ _ (s3 _ _ (s2 _ _ hz1)), fun e => ?_, fun i hi e => ?_⟩
        · have e : z = h := e
          have := s3 _ _ (s2 _ _ hz1); rw [e, hh] at this; cases this
        · have e : z = s i := e
          rw [e, fs i hi] at hz1; cases hz1
      · refine ⟨s4 _ _ (s3 _ _ h3), fun e => ?_, na3⟩
        have e : a3 = h := e
        have := s3 _ _ h3; rw [e, hh] at this; cases this
      · refine ⟨s4 _ _ h4, fun e => ?_, fun i hi e => ?_⟩
        · have e : a4 = h := e
          rw [e, hh] at h4; cases h4
        · have e : a4 = s i := e
          have := (hx i hi).2.hs; rw [← e, f4] at this; cases this
    · have := (hx3 i hi).hs; rw [← e, hh] at this; cases this
  walk_at "nxt"
  refine for_enumA (fun l xs H' => ∃ cs : List Int, cs.length ≤ 63 ∧ xs = cs.map V.int ∧ H' l = some (.lst (cs.map V.int)) ∧ (upd H3 h (.lst [])) l = none ∧ Same (upd H3 h (.lst [])) H') (fun R r => ?_) ?_
  · walk_at "run"
    refine ⟨_, s4.seq (s3.seq (s2.seq (s1.seq hS))), fun l hl => ?_⟩
    obtain ⟨cs, hc, hcl⟩ := cut_ints (ns := ns) (lo := some 3) (hi := some 87)
    exact r l (cs.map V.int) _ ⟨cs, by omega, rfl, by rw [upd_same, hc], hl, same_new hl⟩
  rintro l _ H4 ⟨cs, hcl, rfl, hl4, hl0, s5⟩
  have L4 := L0.same s5
  refine ⟨.inl (.inl hl4), fun k σ H' => k ≤ cs.length ∧ ∃ (s : Nat → Addr) (n : Nat → Nat) (f : Nat → Nat → Option Int) (gs : Nat → List Int) (hs : List V) (x6 x7 x8 x9 x10 x11 x12 x13 : Option V), σ = [some (.ref a), some (.int b), some (.ref z), some (.ref a3), some (.ref a4), some (.ref h), x6, x7, x8, x9, x10, x11, x12, x13, none, none] ∧
    Lw C H' [(l, cs.map V.int), (z, [.int (c 0), .int (c 1)]), (a3, [.ref (p 0), .ref (p 1)]), (a4, [.ref (d 0), .ref (d 1)])] h p d s M n f gs hs k (5 * k), ⟨Nat.zero_le _, s, (fun _ => 8), (fun _ _ => none), (fun _ => []), [], _, _, _, _, _, _, _, _, rfl, ?_⟩, ?_, ?_, ?_⟩
  · refine ⟨fun w hw => ?_, L4.hh, L4.hH, L4.hd, L4.gl, L4.hl, L4.kb, L4.nh, L4.np, L4.nd, L4.ns⟩
    rcases List.mem_cons.mp hw with rfl | hw
    · refine ⟨hl4, fun e => ?_, fun i hi e => ?_⟩
      · have e : l = h := e
        rw [e, upd_same] at hl0; cases hl0
      · have e : l = s i := e
        have := (L0.hH i hi).hs; rw [← e, hl0] at this; cases this
    · exact L4.fx w hw
  · rintro k σ H' ⟨_, s, n, f, gs, hs, _, _, _, _, _, _, _, _, rfl, LL⟩
    exact .inl (.inl (LL.fx (l, cs.map V.int) List.mem_cons_self).1)
  · rintro k x σ H5 hk ⟨hkl, s, n, f, gs, hs, x6, x7, x8, x9, x10, x11, x12, x13, rfl, LL⟩ T hT
    have hlt := (List.getElem?_eq_some_iff.mp hk).1
    rw [List.length_map] at hlt
    obtain ⟨cell, _, rfl⟩ := List.mem_map.mp (List.mem_of_getElem? hk)
    refine gtup2 upd_same ?_
    have L6 := LL.same (same_new (o := .tup [.int (k : Nat), .int cell]) hT)
    obtain ⟨H6, eH6⟩ : ∃ H6, H6 = upd H5 T (.tup [.int (k : Nat), .int cell]) := ⟨_, rfl⟩
    rw [← eH6] at L6 ⊢
    unfold t_law_b1
    dsimp only [List.set_cons_zero, List.set_cons_succ]
    obtain ⟨i, hi, hie⟩ : ∃ i : Nat, i < 2 ∧ (i : Int) = cell % 1000000000000 * 69621 % 2147483647 % 7 / 4 := ⟨(cell % 1000000000000 * 69621 % 2147483647 % 7 / 4).toNat, by omega, by omega⟩
    refine asg_step (v := .int (i : Int)) (H' := H6) (fun R r => ?_) ?_
    · walk_at "run"; rw [← hie]; exact r
    walk_at "nxt"
    obtain ⟨w, hw⟩ : ∃ w : Int, w = cell % 1000000000000 * 48271 % 2147483629 := ⟨_, rfl⟩
    have w0 : 0 ≤ w := by omega
    refine asg_step (v := .int w) (H' := H6) (fun R r => ?_) ?_
    · walk_at "run"; rw [← hw]; exact r
    walk_at "nxt"
    refine asg_step (v := .int (gstI cell b)) (H' := H6) (fun R r => ?_) ?_
    · walk_at "run"; unfold sp_law_guest; exact ⟨_, _, rfl, r⟩
    walk_at "nxt"
    refine asg_any (fun v H' => ∃ (l2 : Addr) (ys : List Int), v = .ref l2 ∧ Same H6 H' ∧ H' l2 = some (.lst (ys.map V.int)) ∧ ys.Perm (gs i)) (fun R r => ?_) ?_
    · walk_at "run"
      refine ⟨_, .inl (.inl (L6.fx (a4, [.ref (d 0), .ref (d 1)]) (by simp)).1), _, two_at (x := fun i => .ref (d i)) hi, ?_⟩
      exact ⟨d i, _, gs i, rfl, .inl (L6.hd i hi), by unfold dG; rw [List.map_map]; rfl, by have := L6.gl i hi; omega, fun ys l pm so hl => r _ _ ⟨l, ys, rfl, same_new hl, upd_same, pm⟩⟩
    rintro _ H7 ⟨l2, ys, rfl, s7, hy, pm⟩
    have L7 := L6.same s7
    walk_at "nxt"
    have hlen : ys.length = (gs i).length := pm.length_eq
    refine if_joinE (b := decide (w % 8 < 2) && decide (0 < ys.length)) (H' := H7) (fun σ' H' => H7 = H' ∧ ∃ g : Int, isG (.int g) = true ∧ σ' = [some (.ref a), some (.int b), some (.ref z), some (.ref a3), some (.ref a4), some (.ref h), some (.int k), some (.int cell), some (.int i), some (.int w), some (.int g), some (.ref l2), x12, x13, none, none]) (fun R r => ?_) (fun e D _ _ _ nx => ?_) (fun e D _ _ _ nx => ?_) ?_
    · walk_at "run"
      by_cases e : w % 8 < 2
      · rw [if_pos e]
        refine ⟨_, .inl (.inl (.inl hy)), ?_⟩
        rw [decide_eq_true e, Bool.true_and] at r
        rw [List.length_map]; simpa using r
      · rw [if_neg e]
        rw [decide_eq_false e, Bool.false_and] at r
        exact r
    · have e' := of_decide_eq_true (Bool.and_eq_true_iff.mp e).2
      have hj : (w / 64 % (ys.length : Int)).toNat < ys.length := by
        have := Int.emod_lt_of_pos (w / 64) (b := (ys.length : Int)) (by omega)
        have := Int.emod_nonneg (w / 64) (b := (ys.length : Int)) (by omega)
        omega
      refine asg_step (v := .int ys[(w / 64 % (ys.length : Int)).toNat]) (H' := H7) (fun R r => ?_) (nx _ _ ⟨rfl, _, (LL.hH i hi).S.g _ (pm.mem_iff.mp (List.getElem_mem hj)), rfl⟩)
      walk_at "run"
      have hz0 : 0 ≤ w / 64 % (ys.length : Int) := Int.emod_nonneg _ (by omega)
      refine ⟨ys.map V.int, .inl (.inl (.inl hy)), by rw [List.length_map]; omega, ys.map V.int, .inl (.inl hy), _, ?_, r⟩
      rw [List.length_map]
      exact at_of (j := (w / 64 % (ys.length : Int)).toNat) (by omega) (by rw [List.getElem?_map, List.getElem?_eq_getElem hj]; rfl)
    · exact nx _ _ ⟨rfl, _, gstI_g _ b hb0, rfl⟩
    rintro _ _ ⟨rfl, g, hG, rfl⟩
    walk_at "nxt"
    refine asg_step (v := .int (M i)) (H' := H7) (fun R r => ?_) ?_
    · walk_at "run"
      refine ⟨_, .inl (.inl (L7.fx (z, [.int (c 0), .int (c 1)]) (by simp)).1), _, two_at (x := fun i => .int (c i)) hi, ?_⟩
      unfold sp_law_most
      exact ⟨c i, rfl, by rw [(hx i hi).1]; exact r⟩
    walk_at "nxt"
    refine if_any (b := false) (fun H' => ∃ (s' : Addr) (n' : Nat) (f' : Nat → Option Int) (gs' : List Int), Off3 (p i) (s i) (d i) H7 H' ∧ (s' = s i ∨ H7 s' = none) ∧ Hs C H' (p i) (M i) s' n' f' gs' ∧ H' (d i) = some (.dK (dG gs')) ∧ gs'.length ≤ (gs i).length + 1) (fun R r => ?_) (fun z => nomatch z) ?_
    · walk_at "run"
      refine ⟨_, .inl (.inl (L7.fx (a3, [.ref (p 0), .ref (p 1)]) (by simp)).1), _, two_at (x := fun i => .ref (p i)) hi, ?_⟩
      refine ⟨_, .inl (.inl (L7.fx (a4, [.ref (d 0), .ref (d 1)]) (by simp)).1), _, two_at (x := fun i => .ref (d i)) hi, ?_⟩
      unfold sp_law_deed
      exact ⟨p i, d i, M i, s i, n i, f i, gs i, g, _, rfl, L7.hH i hi, L7.hd i hi, hG, fun H' s' n' f' gs' o h1 h2 h3 h4 _ => ⟨_, rfl, r _ ⟨s', n', f', gs', o, h1, h2, h3, h4⟩⟩⟩
    rintro _ H8 ⟨s', n', f', gs', o8, hs8, x8, hd8, hl8⟩
    have L8 := L7.deed hi o8 hs8 x8 hd8 hl8
    walk_at "nxt"
    obtain ⟨tn, htn⟩ : ∃ tn : Int, tn = (w / 24 + (k : Int)) % 4 := ⟨_, rfl⟩
    refine asg_step (v := .int tn) (H' := H8) (fun R r => ?_) ?_
    · walk_at "run"; rw [← htn]; exact r
    walk_at "nxt"
    refine if_step (b := decide (w / 8 % 3 = 1)) (H' := H8) (fun R r => ?_) (fun _ => ?_) (fun _ => ?_)
    · walk_at "run"; simpa using r
    · refine if_any (b := false) (fun H' => ∃ ws : List V, Off h H8 H' ∧ H' h = some (.lst (hs ++ ws)) ∧ ws.length ≤ 5 ∧ ∀ w ∈ ws, Kp H8 H' w) (fun R r => ?_) (fun z => nomatch z) ?_
      · walk_at "run"
        refine ⟨_, .inl (.inl (L8.fx (a3, [.ref (p 0), .ref (p 1)]) (by simp)).1), _, two_at (x := fun i => .ref (p i)) hi, ?_⟩
        refine ⟨_, .inl (.inl (L8.fx (a4, [.ref (d 0), .ref (d 1)]) (by simp)).1), _, two_at (x := fun i => .ref (d i)) hi, ?_⟩
        unfold sp_law_look
        exact ⟨p i, d i, h, M i, up s i s' i, up n i n' i, up f i f' i, up gs i gs' i, g, tn, hs, rfl, L8.hH i hi, L8.hd i hi, by have := L8.gl i hi; omega, hG, by omega, by omega, L8.hh, L8.nh i hi, by have := L8.hl; omega, fun H' ws o h1 h2 h3 => ⟨_, rfl, r _ ⟨ws, o, h1, h2, h3⟩⟩⟩
      rintro _ H9 ⟨ws, o9, hh9, hw9, kp9⟩
      exact ⟨by omega, up s i s', up n i n', up f i f', up gs i gs', hs ++ ws, _, _, _, _, _, _, _, _, rfl, (L8.look o9 hh9 hw9 kp9).more (Nat.le_refl _) (by omega)⟩
    · exact ⟨by omega, up s i s', up n i n', up f i f', up gs i gs', hs, _, _, _, _, _, _, _, _, rfl, L8.more (Nat.le_refl _) (by omega)⟩
  rintro σ H5 ⟨_, s, n, f, gs, hs, x6, x7, x8, x9, x10, x11, x12, x13, rfl, LL⟩
  rw [List.length_map] at LL
  walk_at "nxt"
  refine for_rng1 (n := 2) (j := 2) (H' := H5) (fun R r => r) rfl (by omega) (fun k σ H' => ∃ (hs : List V) (x6 x7 x8 x9 x10 x11 x12 x13 : Option V), σ = [some (.ref a), some (.int b), some (.ref z), some (.ref a3), some (.ref a4), some (.ref h), x6, x7, x8, x9, x10, x11, x12, x13, none, none] ∧
    Lw C H' [(l, cs.map V.int), (z, [.int (c 0), .int (c 1)]), (a3, [.ref (p 0), .ref (p 1)]), (a4, [.ref (d 0), .ref (d 1)])] h p d s M n f gs hs cs.length (5 * cs.length + 5 * k)) ⟨hs, _, _, _, _, _, _, _, _, rfl, LL.more (Nat.le_refl _) (by omega)⟩ ?_ ?_
  · rintro k σ H6 hk ⟨hs, x6, x7, x8, x9, x10, x11, x12, x13, rfl, L6⟩
    unfold t_law_b2
    dsimp only [List.set_cons_zero, List.set_cons_succ]
    refine if_any (b := false) (fun H' => ∃ ws : List V, Off h H6 H' ∧ H' h = some (.lst (hs ++ ws)) ∧ ws.length ≤ 5 ∧ ∀ w ∈ ws, Kp H6 H' w) (fun R r => ?_) (fun z => nomatch z) ?_
    · walk_at "run"
      refine ⟨_, .inl (.inl (L6.fx (a3, [.ref (p 0), .ref (p 1)]) (by simp)).1), _, two_at (x := fun i => .ref (p i)) hk, ?_⟩
      refine ⟨_, .inl (.inl (L6.fx (a4, [.ref (d 0), .ref (d 1)]) (by simp)).1), _, two_at (x := fun i => .ref (d i)) hk, ?_⟩
      unfold sp_law_look
      exact ⟨p k, d k, h, M k, s k, n k, f k, gs k, b, (k : Int) + 1, hs, rfl, L6.hH k hk, L6.hd k hk, by have := L6.gl k hk; omega, isG_yes hb0.1 (by omega), by omega, by omega, L6.hh, L6.nh k hk, by have := L6.hl; omega, fun H' ws o h1 h2 h3 => ⟨_, rfl, r _ ⟨ws, o, h1, h2, h3⟩⟩⟩
    rintro _ H9 ⟨ws, o9, hh9, hw9, kp9⟩
    exact ⟨hs ++ ws, _, _, _, _, _, _, _, _, rfl, (L6.look o9 hh9 hw9 kp9).more (Nat.le_refl _) (by omega)⟩
  rintro σ H6 ⟨hs, x6, x7, x8, x9, x10, x11, x12, x13, rfl, L6⟩
  walk_at "nxt"
  refine for_lst (a := h) (xs := hs) (H' := H6) (fun R r => ⟨_, rfl, r⟩) (.inl (.inl L6.hh)) (fun k σ H' => H' = H6 ∧ ∃ x14 x15, σ = [some (.ref a), some (.int b), some (.ref z), some (.ref a3), some (.ref a4), some (.ref h), x6, x7, x8, x9, x10, x11, x12, x13, x14, x15]) ⟨rfl, _, _, rfl⟩ ?_ ?_ ?_
  · rintro k σ H' _ ⟨rfl, _⟩
    exact .inl (.inl L6.hh)
  · rintro k x σ H' hk ⟨rfl, x14, x15, rfl⟩
    obtain ⟨w, u, v, xs, rfl, _, _, _, h1, h2, h3, fx⟩ := L6.kb _ (List.mem_of_getElem? hk)
    refine ⟨w, _, rfl, .inl (.inl h1), rfl, ⟨_, _, rfl, ⟨_, _, rfl, rfl, ?_⟩⟩⟩
    unfold t_law_b3
    refine if_step (b := false) (H' := H') (fun R r => ?_) (fun z => nomatch z) (fun _ => ⟨rfl, _, _, rfl⟩)
    walk_at "run"
    exact neD_lst (.inl (.inl h2)) (.inl (.inl h3)) fx ⟨_, rfl, r⟩
  rintro σ H' ⟨rfl, x14, x15, rfl⟩
  walk_at "nxt"
  exact q _
end
end RS
namespace RS
open PySem PySem.Spec PyProof.Rows L2
def topS (i : Nat) : Stmt := PySem.Challenge.pw_ringseat_k11_whole_house.main.body.getD i (.Pass ⟨0, 0, 0, 0⟩)
/-- the built-in names that the text reads are still the built-in ones -/
structure Bl (mg : Str → Option Value) : Prop where
  bool : mg "bool" = none
  enumerate : mg "enumerate" = none
  int : mg "int" = none
  isinstance : mg "isinstance" = none
  len : mg "len" = none
  list : mg "list" = none
  range : mg "range" = none
  set : mg "set" = none
  sorted : mg "sorted" = none
  zip : mg "zip" = none
abbrev s_is_guest : Stmt := topS 8
theorem sc_is_guest : FnScope ["thing"] ["thing"] (defScope s_is_guest) := ⟨rfl, rfl, rfl, by decide +kernel, rfl, by decide +kernel, by decide +kernel⟩
theorem ok_is_guest {P : Program} {w : World} {K : PySem.W.Frag} {mg : Str → Option Value} {base : Heap} {C : Cs} {f : Addr} {fd : FuncData} (F : Fun K "is_guest" "is_guest" s_is_guest f fd) (B : Bl mg) (T : TopH K mg C) :
    FnOk P w K mg base CX0 1 f fd ["thing"] (sp_is_guest K C) := by
  refine F.ok sc_is_guest (fun vs H Q E h => len_is_guest h) (fun cdv A outer s H vs Q E hr h => ⟨t_is_guest K C E, ?_, pure_is_guest T.f T.h h⟩)
  have hu := hu_of hr
  exact (pss_cons (ps_if (PW.pt (pw_or (pt_not (pt_val (pe_callB call_isA (by rfl) B.isinstance (by decide +kernel) (pa_cons (pv 0) (pa_cons (pe_bltn (v := .ty "int") (by rfl) B.int (by decide +kernel) rfl) pa_nil))))) (pw_or1 (pt_val (pe_callB call_isA (by rfl) B.isinstance (by decide +kernel) (pa_cons (pv 0) (pa_cons (pe_bltn (v := .ty "bool") (by rfl) B.bool (by decide +kernel) rfl) pa_nil))))))) (pss_one (ps_ret pe_bl)) pss_nil)
      (pss_one (ps_ret (pe_and (pe_cmpR op_le pe_int (pv 0) (nomark _)) (pe_one (pe_cmpR op_lt (pv 0) (pe_pow (m := 10) (n := 60) (N := 1000000000000000000000000000000000000000000000000000000000000) rfl rfl (by decide +kernel) (by decide) (by decide)) (nomark _)))))))
theorem cal_is_guest {P : Program} {w : World} {K : PySem.W.Frag} {mg : Str → Option Value} {base : Heap} {C : Cs} (D : Def K mg "is_guest" s_is_guest) (B : Bl mg) (T : TopH K mg C) :
    Cal P w K mg base CX0 1 "is_guest" ["thing"] (sp_is_guest K C) := by
  obtain ⟨f, fd, F, hm⟩ := D.ex
  exact ⟨f, fd, ok_is_guest F B T, hm, F.kp, F.binds (ps := ["thing"]) fun _ _ _ _ _ _ us hl => match us, hl with | [_], _ => rfl⟩
abbrev s_home : Stmt := topS 9
theorem sc_home : FnScope ["guest", "many"] ["guest", "many"] (defScope s_home) := ⟨rfl, rfl, rfl, by decide +kernel, rfl, by decide +kernel, by decide +kernel⟩
theorem ok_home {P : Program} {w : World} {K : PySem.W.Frag} {mg : Str → Option Value} {base : Heap} {C : Cs} {f : Addr} {fd : FuncData} (F : Fun K "home" "home" s_home f fd) (B : Bl mg) (T : TopH K mg C) :
    FnOk P w K mg base CX0 1 f fd ["guest", "many"] (sp_home K C) := by
  refine F.ok sc_home (fun vs H Q E h => len_home h) (fun cdv A outer s H vs Q E hr h => ⟨t_home K C E, ?_, pure_home T.f T.h h⟩)
  have hu := hu_of hr
  exact (pss_one (ps_ret (pe_op op_mod (pe_op op_mod (pe_op op_add (pe_op op_mulL (pv 0) pe_int) (pe_op op_fdiv (pv 0) pe_int)) pe_int) (pv 1))))
theorem cal_home {P : Program} {w : World} {K : PySem.W.Frag} {mg : Str → Option Value} {base : Heap} {C : Cs} (D : Def K mg "home" s_home) (B : Bl mg) (T : TopH K mg C) :
    Cal P w K mg base CX0 1 "home" ["guest", "many"] (sp_home K C) := by
  obtain ⟨f, fd, F, hm⟩ := D.ex
  exact ⟨f, fd, ok_home F B T, hm, F.kp, F.binds (ps := ["guest", "many"]) fun _ _ _ _ _ _ us hl => match us, hl with | [_, _], _ => rfl⟩
abbrev s_carried : Stmt := topS 10
theorem sc_carried : FnScope ["guest", "at", "many"] ["guest", "at", "many"] (defScope s_carried) := ⟨rfl, rfl, rfl, by decide +kernel, rfl, by decide +kernel, by decide +kernel⟩
theorem ok_carried {P : Program} {w : World} {K : PySem.W.Frag} {mg : Str → Option Value} {base : Heap} {C : Cs} {f : Addr} {fd : FuncData} (F : Fun K "carried" "carried" s_carried f fd) (B : Bl mg) (T : TopH K mg C) (c_home : Cal P w K mg base CX0 1 "home" ["guest", "many"] (sp_home K C)) :
    FnOk P w K mg base CX0 2 f fd ["guest", "at", "many"] (sp_carried K C) := by
  refine F.ok sc_carried (fun vs H Q E h => len_carried h) (fun cdv A outer s H vs Q E hr h => ⟨t_carried K C E, ?_, pure_carried T.f T.h h⟩)
  have hu := hu_of hr
  exact (pss_one (ps_ret (pe_op op_mod (pe_op op_sub (pv 1) (pe_fn c_home (hr.mono (by decide)) pass0 (pa_cons (pv 0) (pa_cons (pv 2) pa_nil)))) (pv 2))))
theorem cal_carried {P : Program} {w : World} {K : PySem.W.Frag} {mg : Str → Option Value} {base : Heap} {C : Cs} (D : Def K mg "carried" s_carried) (B : Bl mg) (T : TopH K mg C) (c_home : Cal P w K mg base CX0 1 "home" ["guest", "many"] (sp_home K C)) :
    Cal P w K mg base CX0 2 "carried" ["guest", "at", "many"] (sp_carried K C) := by
  obtain ⟨f, fd, F, hm⟩ := D.ex
  exact ⟨f, fd, ok_carried F B T c_home, hm, F.kp, F.binds (ps := ["guest", "at", "many"]) fun _ _ _ _ _ _ us hl => match us, hl with | [_, _, _], _ => rfl⟩
abbrev s_ahead : Stmt := topS 11
theorem sc_ahead : FnScope ["one", "other", "at", "many", "here", "there"] ["one", "other", "at", "many"] (defScope s_ahead) := ⟨rfl, rfl, rfl, by decide +kernel, rfl, by decide +kernel, by decide +kernel⟩
theorem ok_ahead {P : Program} {w : World} {K : PySem.W.Frag} {mg : Str → Option Value} {base : Heap} {C : Cs} {f : Addr} {fd : FuncData} (F : Fun K "ahead" "ahead" s_ahead f fd) (B : Bl mg) (T : TopH K mg C) (c_carried : Cal P w K mg base CX0 2 "carried" ["guest", "at", "many"] (sp_carried K C)) :
    FnOk P w K mg base CX0 3 f fd ["one", "other", "at", "many"] (sp_ahead K C) := by
  refine F.ok sc_ahead (fun vs H Q E h => len_ahead h) (fun cdv A outer s H vs Q E hr h => ⟨t_ahead K C E, ?_, pure_ahead T.f T.h h⟩)
  have hu := hu_of hr
  exact (pss_cons (ps_set (i := 4) sc_ahead.nd rfl (.inl rfl) (pe_fn c_carried (hr.mono (by decide)) pass0 (pa_cons (pv 0) (pa_cons (pv 2) (pa_cons (pv 3) pa_nil)))))
      (pss_cons (ps_set (i := 5) sc_ahead.nd rfl (.inl rfl) (pe_fn c_carried (hr.mono (by decide)) pass0 (pa_cons (pv 1) (pa_cons (pv 2) (pa_cons (pv 3) pa_nil)))))
      (pss_cons (ps_if (pt_cmpR op_ne (pv 4) (pv 5) (nomark _)) (pss_one (ps_ret (pe_cmpR op_gt (pv 4) (pv 5) (nomark _)))) pss_nil)
      (pss_one (ps_ret (pe_cmpR op_lt (pv 0) (pv 1) (nomark _)))))))
theorem cal_ahead {P : Program} {w : World} {K : PySem.W.Frag} {mg : Str → Option Value} {base : Heap} {C : Cs} (D : Def K mg "ahead" s_ahead) (B : Bl mg) (T : TopH K mg C) (c_carried : Cal P w K mg base CX0 2 "carried" ["guest", "at", "many"] (sp_carried K C)) :
    Cal P w K mg base CX0 3 "ahead" ["one", "other", "at", "many"] (sp_ahead K C) := by
  obtain ⟨f, fd, F, hm⟩ := D.ex
  exact ⟨f, fd, ok_ahead F B T c_carried, hm, F.kp, F.binds (ps := ["one", "other", "at", "many"]) fun _ _ _ _ _ _ us hl => match us, hl with | [_, _, _, _], _ => rfl⟩
abbrev s_room : Stmt := topS 12
theorem sc_room : FnScope ["count", "size"] ["count"] (defScope s_room) := ⟨rfl, rfl, rfl, by decide +kernel, rfl, by decide +kernel, by decide +kernel⟩
theorem ok_room {P : Program} {w : World} {K : PySem.W.Frag} {mg : Str → Option Value} {base : Heap} {C : Cs} {f : Addr} {fd : FuncData} (F : Fun K "room" "room" s_room f fd) (B : Bl mg) (T : TopH K mg C) :
    FnOk P w K mg base CX0 1 f fd ["count"] (sp_room K C) := by
  refine F.ok sc_room (fun vs H Q E h => len_room h) (fun cdv A outer s H vs Q E hr h => ⟨t_room K C E, ?_, pure_room T.f T.h h⟩)
  have hu := hu_of hr
  exact (pss_cons (ps_set (i := 1) sc_room.nd rfl (.inl rfl) pe_int)
      (pss_cons (ps_while PassesOwn.never (pt_cmpR op_gt (pe_op op_mulL pe_int (pv 0)) (pe_op op_mulL pe_int (pv 1)) (nomark _)) (pss_one (ps_set (i := 1) sc_room.nd rfl (.inl rfl) (pe_op op_mulL pe_int (pv 1)))))
      (pss_one (ps_ret (pv 1)))))
theorem cal_room {P : Program} {w : World} {K : PySem.W.Frag} {mg : Str → Option Value} {base : Heap} {C : Cs} (D : Def K mg "room" s_room) (B : Bl mg) (T : TopH K mg C) :
    Cal P w K mg base CX0 1 "room" ["count"] (sp_room K C) := by
  obtain ⟨f, fd, F, hm⟩ := D.ex
  exact ⟨f, fd, ok_room F B T, hm, F.kp, F.binds (ps := ["count"]) fun _ _ _ _ _ _ us hl => match us, hl with | [_], _ => rfl⟩
abbrev s_look_for : Stmt := topS 14
theorem sc_look_for : FnScope ["seats", "guest", "many", "at", "looked"] ["seats", "guest"] (defScope s_look_for) := ⟨rfl, rfl, rfl, by decide +kernel, rfl, by decide +kernel, by decide +kernel⟩
theorem ok_look_for {P : Program} {w : World} {K : PySem.W.Frag} {mg : Str → Option Value} {base : Heap} {C : Cs} {f : Addr} {fd : FuncData} (F : Fun K "look_for" "look_for" s_look_for f fd) (B : Bl mg) (T : TopH K mg C) (c_is_guest : Cal P w K mg base CX0 1 "is_guest" ["thing"] (sp_is_guest K C)) (c_home : Cal P w K mg base CX0 1 "home" ["guest", "many"] (sp_home K C)) (c_ahead : Cal P w K mg base CX0 3 "ahead" ["one", "other", "at", "many"] (sp_ahead K C)) :
    FnOk P w K mg base (L2.CX P w) 4 f fd ["seats", "guest"] (sp_look_for K C) := by
  refine F.okX sc_look_for (fun vs H Q E h => len_look_for h) (fun cdv A outer s H vs Q E hr h => ⟨t_look_for K C E, ?_, pure_look_for T.f T.h h⟩)
  have hu := hu_of hr
  exact (pss_cons (ps_if (pt_not (pt_val (pe_fn c_is_guest (hr.mono (by decide)) pass0 (pa_cons (pv 1) pa_nil)))) (pss_one (ps_raise rfl (takes_of rfl rfl rfl rfl) (pmk_own PySem.F.excBase_ValueError (T.f.ex .noGuest).q T.gNoGuest (T.f.ex .noGuest).k (raises_own (T.f.ex .noGuest).b (T.f.ex .noGuest).t) (by rfl)))) pss_nil)
      (PSs.nox (pss_cons (ps_set (i := 2) sc_look_for.nd rfl (.inl rfl) (pe_callB call_len_seq (by rfl) B.len (by decide +kernel) (pa_cons (pv 0) pa_nil)))
      (pss_cons (ps_set (i := 3) sc_look_for.nd rfl (.inl rfl) (pe_fn c_home (hr.mono (by decide)) pass0 (pa_cons (pv 1) (pa_cons (pv 2) pa_nil))))
      (pss_cons (ps_set (i := 4) sc_look_for.nd rfl (.inl rfl) pe_int)
      (pss_cons (ps_while PassesOwn.never (PW.pt (pw_and (pt_cmp (pc_notN (pe_ix ix_list (pv 0) (pv 3) (fun _ _ => rfl)))) (pw_and1 (pt_val (pe_fn c_ahead (hr.mono (by decide)) pass0 (pa_cons (pe_ix ix_list (pv 0) (pv 3) (fun _ _ => rfl)) (pa_cons (pv 1) (pa_cons (pv 3) (pa_cons (pv 2) pa_nil))))))))) (pss_cons (ps_set (i := 3) sc_look_for.nd rfl (.inl rfl) (pe_op op_mod (pe_op op_add (pv 3) pe_int) (pv 2)))
      (pss_one (ps_set (i := 4) sc_look_for.nd rfl (.inl rfl) (pe_op op_add (pv 4) pe_int)))))
      (pss_one (ps_ret (pe_tup (pa_cons (pv 3) (pa_cons (pv 4) pa_nil)))))))))))
theorem cal_look_for {P : Program} {w : World} {K : PySem.W.Frag} {mg : Str → Option Value} {base : Heap} {C : Cs} (D : Def K mg "look_for" s_look_for) (B : Bl mg) (T : TopH K mg C) (c_is_guest : Cal P w K mg base CX0 1 "is_guest" ["thing"] (sp_is_guest K C)) (c_home : Cal P w K mg base CX0 1 "home" ["guest", "many"] (sp_home K C)) (c_ahead : Cal P w K mg base CX0 3 "ahead" ["one", "other", "at", "many"] (sp_ahead K C)) :
    Cal P w K mg base (L2.CX P w) 4 "look_for" ["seats", "guest"] (sp_look_for K C) := by
  obtain ⟨f, fd, F, hm⟩ := D.ex
  exact ⟨f, fd, ok_look_for F B T c_is_guest c_home c_ahead, hm, F.kp, F.binds (ps := ["seats", "guest"]) fun _ _ _ _ _ _ us hl => match us, hl with | [_, _], _ => rfl⟩
abbrev s_place_of : Stmt := topS 15
theorem sc_place_of : FnScope ["seats", "guest", "at"] ["seats", "guest"] (defScope s_place_of) := ⟨rfl, rfl, rfl, by decide +kernel, rfl, by decide +kernel, by decide +kernel⟩
theorem ok_place_of {P : Program} {w : World} {K : PySem.W.Frag} {mg : Str → Option Value} {base : Heap} {C : Cs} {f : Addr} {fd : FuncData} (F : Fun K "place_of" "place_of" s_place_of f fd) (B : Bl mg) (T : TopH K mg C) (c_look_for : Cal P w K mg base (L2.CX P w) 4 "look_for" ["seats", "guest"] (sp_look_for K C)) :
    FnOk P w K mg base (L2.CX P w) 5 f fd ["seats", "guest"] (sp_place_of K C) := by
  refine F.okX sc_place_of (fun vs H Q E h => len_place_of h) (fun cdv A outer s H vs Q E hr h => ⟨t_place_of K C E, ?_, pure_place_of T.f T.h h⟩)
  have hu := hu_of hr
  exact (pss_cons (ps_set (i := 2) sc_place_of.nd rfl (.inl rfl) (pe_ix ix_tup (pe_fn c_look_for (hr.mono (by decide)) (passes_call (takes_of rfl rfl rfl rfl) (fun _ _ _ _ h => h)) (pa_cons (pv 0) (pa_cons (pv 1) pa_nil))) pe_int (fun _ _ => rfl)))
      (PSs.nox (pss_cons (ps_if (pt_cmpR op_eq (pe_ix ix_list (pv 0) (pv 2) (fun _ _ => rfl)) (pv 1) (nomark _)) (pss_one (ps_ret (pv 2))) pss_nil)
      (pss_one (ps_ret pe_non)))))
theorem cal_place_of {P : Program} {w : World} {K : PySem.W.Frag} {mg : Str → Option Value} {base : Heap} {C : Cs} (D : Def K mg "place_of" s_place_of) (B : Bl mg) (T : TopH K mg C) (c_look_for : Cal P w K mg base (L2.CX P w) 4 "look_for" ["seats", "guest"] (sp_look_for K C)) :
    Cal P w K mg base (L2.CX P w) 5 "place_of" ["seats", "guest"] (sp_place_of K C) := by
  obtain ⟨f, fd, F, hm⟩ := D.ex
  exact ⟨f, fd, ok_place_of F B T c_look_for, hm, F.kp, F.binds (ps := ["seats", "guest"]) fun _ _ _ _ _ _ us hl => match us, hl with | [_, _], _ => rfl⟩
abbrev s_take_seat : Stmt := topS 17
theorem sc_take_seat : FnScope ["seats", "guest", "at", "found", "other"] ["seats", "guest"] (defScope s_take_seat) := ⟨rfl, rfl, rfl, by decide +kernel, rfl, by decide +kernel, by decide +kernel⟩
theorem ok_take_seat {P : Program} {w : World} {K : PySem.W.Frag} {mg : Str → Option Value} {base : Heap} {C : Cs} {f : Addr} {fd : FuncData} (F : Fun K "take_seat" "take_seat" s_take_seat f fd) (B : Bl mg) (T : TopH K mg C) (c_look_for : Cal P w K mg base (L2.CX P w) 4 "look_for" ["seats", "guest"] (sp_look_for K C)) :
    FnOk P w K mg base (L2.CX P w) 5 f fd ["seats", "guest"] (sp_take_seat K C) := by
  refine F.okX sc_take_seat (fun vs H Q E h => len_take_seat h) (fun cdv A outer s H vs Q E hr h => ⟨t_take_seat K C E, ?_, pure_take_seat T.f T.h h⟩)
  have hu := hu_of hr
  exact (pss_cons (ps_set (i := 2) sc_take_seat.nd rfl (.inl rfl) (pe_ix ix_tup (pe_fn c_look_for (hr.mono (by decide)) (passes_call (takes_of rfl rfl rfl rfl) (fun _ _ _ _ h => h)) (pa_cons (pv 0) (pa_cons (pv 1) pa_nil))) pe_int (fun _ _ => rfl)))
      (PSs.nox (pss_cons (ps_set (i := 3) sc_take_seat.nd rfl (.inl rfl) (pv 2))
      (pss_cons (ps_while PassesOwn.never (pt_cmp (pc_notN (pv 1))) (pss_cons (ps_set (i := 4) sc_take_seat.nd rfl (.inl rfl) (pe_ix ix_list (pv 0) (pv 2) (fun _ _ => rfl)))
      (pss_cons (ps_asg (pv 1) (pg_sub (pv 0) (pv 2) set_list))
      (pss_cons (ps_set (i := 1) sc_take_seat.nd rfl (.inl rfl) (pv 4))
      (pss_one (ps_set (i := 2) sc_take_seat.nd rfl (.inl rfl) (pe_op op_mod (pe_op op_add (pv 2) pe_int) (pe_callB call_len_seq (by rfl) B.len (by decide +kernel) (pa_cons (pv 0) pa_nil)))))))))
      (pss_one (ps_ret (pv 3)))))))
theorem cal_take_seat {P : Program} {w : World} {K : PySem.W.Frag} {mg : Str → Option Value} {base : Heap} {C : Cs} (D : Def K mg "take_seat" s_take_seat) (B : Bl mg) (T : TopH K mg C) (c_look_for : Cal P w K mg base (L2.CX P w) 4 "look_for" ["seats", "guest"] (sp_look_for K C)) :
    Cal P w K mg base (L2.CX P w) 5 "take_seat" ["seats", "guest"] (sp_take_seat K C) := by
  obtain ⟨f, fd, F, hm⟩ := D.ex
  exact ⟨f, fd, ok_take_seat F B T c_look_for, hm, F.kp, F.binds (ps := ["seats", "guest"]) fun _ _ _ _ _ _ us hl => match us, hl with | [_, _], _ => rfl⟩
abbrev s_leave_seat : Stmt := topS 18
theorem sc_leave_seat : FnScope ["seats", "at", "many", "behind"] ["seats", "at"] (defScope s_leave_seat) := ⟨rfl, rfl, rfl, by decide +kernel, rfl, by decide +kernel, by decide +kernel⟩
theorem ok_leave_seat {P : Program} {w : World} {K : PySem.W.Frag} {mg : Str → Option Value} {base : Heap} {C : Cs} {f : Addr} {fd : FuncData} (F : Fun K "leave_seat" "leave_seat" s_leave_seat f fd) (B : Bl mg) (T : TopH K mg C) (c_carried : Cal P w K mg base CX0 2 "carried" ["guest", "at", "many"] (sp_carried K C)) :
    FnOk P w K mg base CX0 3 f fd ["seats", "at"] (sp_leave_seat K C) := by
  refine F.ok sc_leave_seat (fun vs H Q E h => len_leave_seat h) (fun cdv A outer s H vs Q E hr h => ⟨t_leave_seat K C E, ?_, pure_leave_seat T.f T.h h⟩)
  have hu := hu_of hr
  exact (pss_cons (ps_set (i := 2) sc_leave_seat.nd rfl (.inl rfl) (pe_callB call_len_seq (by rfl) B.len (by decide +kernel) (pa_cons (pv 0) pa_nil)))
      (pss_cons (ps_set (i := 3) sc_leave_seat.nd rfl (.inl rfl) (pe_op op_mod (pe_op op_add (pv 1) pe_int) (pv 2)))
      (pss_cons (ps_while PassesOwn.never (PW.pt (pw_and (pt_cmp (pc_notN (pe_ix ix_list (pv 0) (pv 3) (fun _ _ => rfl)))) (pw_and1 (pt_cmpR op_gt (pe_fn c_carried (hr.mono (by decide)) pass0 (pa_cons (pe_ix ix_list (pv 0) (pv 3) (fun _ _ => rfl)) (pa_cons (pv 3) (pa_cons (pv 2) pa_nil)))) pe_int (nomark _))))) (pss_cons (ps_asg (pe_ix ix_list (pv 0) (pv 3) (fun _ _ => rfl)) (pg_sub (pv 0) (pv 1) set_list))
      (pss_cons (ps_set (i := 1) sc_leave_seat.nd rfl (.inl rfl) (pv 3))
      (pss_one (ps_set (i := 3) sc_leave_seat.nd rfl (.inl rfl) (pe_op op_mod (pe_op op_add (pv 1) pe_int) (pv 2)))))))
      (pss_one (ps_asg pe_non (pg_sub (pv 0) (pv 1) set_list))))))
theorem cal_leave_seat {P : Program} {w : World} {K : PySem.W.Frag} {mg : Str → Option Value} {base : Heap} {C : Cs} (D : Def K mg "leave_seat" s_leave_seat) (B : Bl mg) (T : TopH K mg C) (c_carried : Cal P w K mg base CX0 2 "carried" ["guest", "at", "many"] (sp_carried K C)) :
    Cal P w K mg base CX0 3 "leave_seat" ["seats", "at"] (sp_leave_seat K C) := by
  obtain ⟨f, fd, F, hm⟩ := D.ex
  exact ⟨f, fd, ok_leave_seat F B T c_carried, hm, F.kp, F.binds (ps := ["seats", "at"]) fun _ _ _ _ _ _ us hl => match us, hl with | [_, _], _ => rfl⟩
abbrev s_looked_through : Stmt := topS 19
theorem sc_looked_through : FnScope ["guests", "many", "guest"] ["guests", "many"] (defScope s_looked_through) := ⟨rfl, rfl, rfl, by decide +kernel, rfl, by decide +kernel, by decide +kernel⟩
theorem ok_looked_through {P : Program} {w : World} {K : PySem.W.Frag} {mg : Str → Option Value} {base : Heap} {C : Cs} {f : Addr} {fd : FuncData} (F : Fun K "looked_through" "looked_through" s_looked_through f fd) (B : Bl mg) (T : TopH K mg C) (c_is_guest : Cal P w K mg base CX0 1 "is_guest" ["thing"] (sp_is_guest K C)) :
    FnOk P w K mg base (L2.CX P w) 2 f fd ["guests", "many"] (sp_looked_through K C) := by
  refine F.okX sc_looked_through (fun vs H Q E h => len_looked_through h) (fun cdv A outer s H vs Q E hr h => ⟨t_looked_through K C E, ?_, pure_looked_through T.f T.h h⟩)
  have hu := hu_of hr
  exact (pss_cons (ps_for (passes_of rfl) rfl (pi_list (pv 0)) (pg_name (i := 2) sc_looked_through.nd rfl (.inl rfl)) (pss_one (ps_if (pt_not (pt_val (pe_fn c_is_guest (hr.mono (by decide)) pass0 (pa_cons (pv 2) pa_nil)))) (pss_one (ps_raise rfl (takes_of rfl rfl rfl rfl) (pmk_own PySem.F.excBase_ValueError (T.f.ex .noGuest).q T.gNoGuest (T.f.ex .noGuest).k (raises_own (T.f.ex .noGuest).b (T.f.ex .noGuest).t) (by rfl)))) pss_nil)))
      (pss_cons (ps_if (pt_cmpR op_lt (pe_lenSet B.len B.set (pv 0)) (pe_callB call_len_seq (by rfl) B.len (by decide +kernel) (pa_cons (pv 0) pa_nil)) (nomark _)) (pss_one (ps_raise rfl (takes_of rfl rfl rfl rfl) (pmk_own PySem.F.excBase_ValueError (T.f.ex .twice).q T.gTwice (T.f.ex .twice).k (raises_own (T.f.ex .twice).b (T.f.ex .twice).t) (by rfl)))) pss_nil)
      (pss_one (ps_if (pt_cmpR op_ge (pe_callB call_len_seq (by rfl) B.len (by decide +kernel) (pa_cons (pv 0) pa_nil)) (pv 1) (nomark _)) (pss_one (ps_raise rfl (takes_of rfl rfl rfl rfl) (pmk_own PySem.F.excBase_ValueError (T.f.ex .full).q T.gFull (T.f.ex .full).k (raises_own (T.f.ex .full).b (T.f.ex .full).t) (by rfl)))) pss_nil))))
theorem cal_looked_through {P : Program} {w : World} {K : PySem.W.Frag} {mg : Str → Option Value} {base : Heap} {C : Cs} (D : Def K mg "looked_through" s_looked_through) (B : Bl mg) (T : TopH K mg C) (c_is_guest : Cal P w K mg base CX0 1 "is_guest" ["thing"] (sp_is_guest K C)) :
    Cal P w K mg base (L2.CX P w) 2 "looked_through" ["guests", "many"] (sp_looked_through K C) := by
  obtain ⟨f, fd, F, hm⟩ := D.ex
  exact ⟨f, fd, ok_looked_through F B T c_is_guest, hm, F.kp, F.binds (ps := ["guests", "many"]) fun _ _ _ _ _ _ us hl => match us, hl with | [_, _], _ => rfl⟩
abbrev s_seated : Stmt := topS 20
theorem sc_seated : FnScope ["guests", "many", "seats", "guest"] ["guests", "many"] (defScope s_seated) := ⟨rfl, rfl, rfl, by decide +kernel, rfl, by decide +kernel, by decide +kernel⟩
theorem ok_seated {P : Program} {w : World} {K : PySem.W.Frag} {mg : Str → Option Value} {base : Heap} {C : Cs} {f : Addr} {fd : FuncData} (F : Fun K "seated" "seated" s_seated f fd) (B : Bl mg) (T : TopH K mg C) (c_looked_through : Cal P w K mg base (L2.CX P w) 2 "looked_through" ["guests", "many"] (sp_looked_through K C)) (c_take_seat : Cal P w K mg base (L2.CX P w) 5 "take_seat" ["seats", "guest"] (sp_take_seat K C)) :
    FnOk P w K mg base (L2.CX P w) 6 f fd ["guests", "many"] (sp_seated K C) := by
  refine F.okX sc_seated (fun vs H Q E h => len_seated h) (fun cdv A outer s H vs Q E hr h => ⟨t_seated K C E, ?_, pure_seated T.f T.h h⟩)
  have hu := hu_of hr
  exact (pss_cons (ps_expr (pe_fn c_looked_through (hr.mono (by decide)) (passes_call (takes_of rfl rfl rfl rfl) (fun _ _ _ _ h => h)) (pa_cons (pv 0) (pa_cons (pv 1) pa_nil))))
      (pss_cons (ps_set (i := 2) sc_seated.nd rfl (.inl rfl) (pe_op op_rep (pe_lst (pa_cons pe_non pa_nil)) (pv 1)))
      (pss_cons (ps_for (passes_of rfl) rfl (pi_list (pv 0)) (pg_name (i := 3) sc_seated.nd rfl (.inl rfl)) (pss_one (ps_expr (pe_fn c_take_seat (hr.mono (by decide)) (passes_call (takes_of rfl rfl rfl rfl) (fun _ _ _ _ h => h)) (pa_cons (pv 2) (pa_cons (pv 3) pa_nil))))))
      (PSs.nox (pss_one (ps_ret (pv 2)))))))
theorem cal_seated {P : Program} {w : World} {K : PySem.W.Frag} {mg : Str → Option Value} {base : Heap} {C : Cs} (D : Def K mg "seated" s_seated) (B : Bl mg) (T : TopH K mg C) (c_looked_through : Cal P w K mg base (L2.CX P w) 2 "looked_through" ["guests", "many"] (sp_looked_through K C)) (c_take_seat : Cal P w K mg base (L2.CX P w) 5 "take_seat" ["seats", "guest"] (sp_take_seat K C)) :
    Cal P w K mg base (L2.CX P w) 6 "seated" ["guests", "many"] (sp_seated K C) := by
  obtain ⟨f, fd, F, hm⟩ := D.ex
  exact ⟨f, fd, ok_seated F B T c_looked_through c_take_seat, hm, F.kp, F.binds (ps := ["guests", "many"]) fun _ _ _ _ _ _ us hl => match us, hl with | [_, _], _ => rfl⟩
abbrev s_House_init : Stmt := inClass (topS 22) 0
theorem sc_House_init : FnScope ["self", "most"] ["self", "most"] (defScope s_House_init) := ⟨rfl, rfl, rfl, by decide +kernel, rfl, by decide +kernel, by decide +kernel⟩
theorem ok_House_init {P : Program} {w : World} {K : PySem.W.Frag} {mg : Str → Option Value} {base : Heap} {C : Cs} {f : Addr} {fd : FuncData} (F : FunD K "__init__" "House.__init__" (defArgs s_House_init) (defBody s_House_init) (defScope s_House_init) [.int 96] [] f fd) (B : Bl mg) (T : TopH K mg C) (c_room : Cal P w K mg base CX0 1 "room" ["count"] (sp_room K C)) :
    FnOk P w K mg base (L2.CX P w) 2 f fd ["self", "most"] (sp_House_init K C) := by
  refine F.ok (CX := L2.CX P w) sc_House_init (fun vs H Q E h => len_House_init h) (fun cdv A outer s H vs Q E hr h => ⟨t_House_init K C E, ?_, pure_House_init T.f T.h h⟩)
  have hu := hu_of hr
  exact (pss_cons (ps_if (PW.pt (pw_or (pt_not (pt_val (pe_callB call_isA (by rfl) B.isinstance (by decide +kernel) (pa_cons (pv 1) (pa_cons (pe_bltn (v := .ty "int") (by rfl) B.int (by decide +kernel) rfl) pa_nil))))) (pw_or (pt_val (pe_callB call_isA (by rfl) B.isinstance (by decide +kernel) (pa_cons (pv 1) (pa_cons (pe_bltn (v := .ty "bool") (by rfl) B.bool (by decide +kernel) rfl) pa_nil)))) (pw_or (pt_cmpR op_lt (pv 1) pe_int (nomark _)) (pw_or1 (pt_cmpR op_gt (pv 1) pe_int (nomark _))))))) (pss_one (ps_raise rfl (takes_of rfl rfl rfl rfl) (pmk_own PySem.F.excBase_ValueError (T.f.ex .noSize).q T.gNoSize (T.f.ex .noSize).k (raises_own (T.f.ex .noSize).b (T.f.ex .noSize).t) (by rfl)))) pss_nil)
      (PSs.nox (pss_cons (ps_fld (pv 0) (pv 1) rfl)
      (pss_one (ps_fld (pv 0) (pe_op op_rep (pe_lst (pa_cons pe_non pa_nil)) (pe_fn c_room (hr.mono (by decide)) pass0 (pa_cons pe_int pa_nil))) rfl)))))
theorem cal_House_init {P : Program} {w : World} {K : PySem.W.Frag} {mg : Str → Option Value} {base : Heap} {C : Cs} (D : DefI K C.cHouse s_House_init) (B : Bl mg) (T : TopH K mg C) (c_room : Cal P w K mg base CX0 1 "room" ["count"] (sp_room K C)) :
    CalI P w K mg base 2 C.cHouse ["self", "most"] (.int 96) (sp_House_init K C) := by
  obtain ⟨f, fd, F, hm⟩ := D.ex
  refine ⟨f, fd, ok_House_init F B T c_room, hm, ?_, ?_⟩
  · obtain ⟨ds, r, b⟩ := F.binds1 (ps := ["self", "most"]) 2 1 (by simp) rfl (fun T kV doc pm an cdv ct us its h1 h2 => match us, its, h1, h2 with | [u1, u2], [d], _, _ => ⟨_, rfl, rfl⟩)
    match ds, r with
    | [], .nil => exact b
  · obtain ⟨ds, r, b⟩ := F.binds1 (ps := ["self", "most"]) 1 0 (by simp) rfl (fun T kV doc pm an cdv ct us its h1 h2 => match us, its, h1, h2 with | [u], [d], _, _ => ⟨_, rfl, rfl⟩)
    match ds, r with
    | [d], .cons a .nil => exact ⟨d, a, b⟩
abbrev s_House_come : Stmt := inClass (topS 22) 1
theorem sc_House_come : FnScope ["self", "guest", "size"] ["self", "guest"] (defScope s_House_come) := ⟨rfl, rfl, rfl, by decide +kernel, rfl, by decide +kernel, by decide +kernel⟩
theorem ok_House_come {P : Program} {w : World} {K : PySem.W.Frag} {mg : Str → Option Value} {base : Heap} {C : Cs} {f : Addr} {fd : FuncData} (F : Fun K "come" "House.come" s_House_come f fd) (B : Bl mg) (T : TopH K mg C) (c_place_of : Cal P w K mg base (L2.CX P w) 5 "place_of" ["seats", "guest"] (sp_place_of K C)) (c_House_many : CalM P w K mg base CX0 1 C.cHouse "many" ["self"] (sp_House_many K C)) (c_room : Cal P w K mg base CX0 1 "room" ["count"] (sp_room K C)) (c_House_guests : CalM P w K mg base CX0 1 C.cHouse "guests" ["self"] (sp_House_guests K C)) (c_seated : Cal P w K mg base (L2.CX P w) 6 "seated" ["guests", "many"] (sp_seated K C)) (c_take_seat : Cal P w K mg base (L2.CX P w) 5 "take_seat" ["seats", "guest"] (sp_take_seat K C)) :
    FnOk P w K mg base (L2.CX P w) 7 f fd ["self", "guest"] (sp_House_come K C) := by
  refine F.okX sc_House_come (fun vs H Q E h => len_House_come h) (fun cdv A outer s H vs Q E hr h => ⟨t_House_come K C E, ?_, pure_House_come T.f T.h h⟩)
  have hu := hu_of hr
  exact (pss_cons (ps_if (pt_cmp (pc_notN (pe_fn c_place_of (hr.mono (by decide)) (passes_call (takes_of rfl rfl rfl rfl) (fun _ _ _ _ h => h)) (pa_cons (pe_fld (pv 0) rfl) (pa_cons (pv 1) pa_nil))))) (pss_one (ps_raise rfl (takes_of rfl rfl rfl rfl) (pmk_own PySem.F.excBase_ValueError (T.f.ex .twice).q T.gTwice (T.f.ex .twice).k (raises_own (T.f.ex .twice).b (T.f.ex .twice).t) (by rfl)))) pss_nil)
      (pss_cons (ps_if (pt_cmpR op_ge (CalM.use c_House_many fun f fd F hm hb => pe_meth0 (pv 0) T.h.cl hm F (hr.mono (by decide)) hb .nil pass0) (pe_fld (pv 0) rfl) (nomark _)) (pss_one (ps_raise rfl (takes_of rfl rfl rfl rfl) (pmk_own PySem.F.excBase_ValueError (T.f.ex .full).q T.gFull (T.f.ex .full).k (raises_own (T.f.ex .full).b (T.f.ex .full).t) (by rfl)))) pss_nil)
      (pss_cons (ps_set (i := 2) sc_House_come.nd rfl (.inl rfl) (pe_fn c_room (hr.mono (by decide)) pass0 (pa_cons (pe_op op_add (CalM.use c_House_many fun f fd F hm hb => pe_meth0 (pv 0) T.h.cl hm F (hr.mono (by decide)) hb .nil pass0) pe_int) pa_nil)))
      (pss_cons (ps_if (pt_cmpR op_ne (pv 2) (pe_callB call_len_seq (by rfl) B.len (by decide +kernel) (pa_cons (pe_fld (pv 0) rfl) pa_nil)) (nomark _)) (pss_one (ps_fld (pv 0) (pe_fn c_seated (hr.mono (by decide)) (passes_call (takes_of rfl rfl rfl rfl) (fun _ _ _ _ h => h)) (pa_cons (CalM.use c_House_guests fun f fd F hm hb => pe_meth0 (pv 0) T.h.cl hm F (hr.mono (by decide)) hb .nil pass0) (pa_cons (pv 2) pa_nil))) rfl)) pss_nil)
      (pss_one (ps_ret (pe_fn c_take_seat (hr.mono (by decide)) (passes_call (takes_of rfl rfl rfl rfl) (fun _ _ _ _ h => h)) (pa_cons (pe_fld (pv 0) rfl) (pa_cons (pv 1) pa_nil)))))))))
theorem cal_House_come {P : Program} {w : World} {K : PySem.W.Frag} {mg : Str → Option Value} {base : Heap} {C : Cs} (D : DefM K C.cHouse "come" "House.come" s_House_come) (B : Bl mg) (T : TopH K mg C) (c_place_of : Cal P w K mg base (L2.CX P w) 5 "place_of" ["seats", "guest"] (sp_place_of K C)) (c_House_many : CalM P w K mg base CX0 1 C.cHouse "many" ["self"] (sp_House_many K C)) (c_room : Cal P w K mg base CX0 1 "room" ["count"] (sp_room K C)) (c_House_guests : CalM P w K mg base CX0 1 C.cHouse "guests" ["self"] (sp_House_guests K C)) (c_seated : Cal P w K mg base (L2.CX P w) 6 "seated" ["guests", "many"] (sp_seated K C)) (c_take_seat : Cal P w K mg base (L2.CX P w) 5 "take_seat" ["seats", "guest"] (sp_take_seat K C)) :
    CalM P w K mg base (L2.CX P w) 7 C.cHouse "come" ["self", "guest"] (sp_House_come K C) := by
  obtain ⟨f, fd, F, hm⟩ := D.ex
  exact ⟨f, fd, ok_House_come F B T c_place_of c_House_many c_room c_House_guests c_seated c_take_seat, hm, F.binds (ps := ["self", "guest"]) fun _ _ _ _ _ _ us hl => match us, hl with | [_, _], _ => rfl⟩
abbrev s_House_go : Stmt := inClass (topS 22) 2
theorem sc_House_go : FnScope ["self", "guest", "at", "size"] ["self", "guest"] (defScope s_House_go) := ⟨rfl, rfl, rfl, by decide +kernel, rfl, by decide +kernel, by decide +kernel⟩
theorem ok_House_go {P : Program} {w : World} {K : PySem.W.Frag} {mg : Str → Option Value} {base : Heap} {C : Cs} {f : Addr} {fd : FuncData} (F : Fun K "go" "House.go" s_House_go f fd) (B : Bl mg) (T : TopH K mg C) (c_place_of : Cal P w K mg base (L2.CX P w) 5 "place_of" ["seats", "guest"] (sp_place_of K C)) (c_leave_seat : Cal P w K mg base CX0 3 "leave_seat" ["seats", "at"] (sp_leave_seat K C)) (c_House_many : CalM P w K mg base CX0 1 C.cHouse "many" ["self"] (sp_House_many K C)) (c_room : Cal P w K mg base CX0 1 "room" ["count"] (sp_room K C)) (c_House_guests : CalM P w K mg base CX0 1 C.cHouse "guests" ["self"] (sp_House_guests K C)) (c_seated : Cal P w K mg base (L2.CX P w) 6 "seated" ["guests", "many"] (sp_seated K C)) :
    FnOk P w K mg base (L2.CX P w) 7 f fd ["self", "guest"] (sp_House_go K C) := by
  refine F.okX sc_House_go (fun vs H Q E h => len_House_go h) (fun cdv A outer s H vs Q E hr h => ⟨t_House_go K C E, ?_, pure_House_go T.f T.h h⟩)
  have hu := hu_of hr
  exact (pss_cons (ps_set (i := 2) sc_House_go.nd rfl (.inl rfl) (pe_fn c_place_of (hr.mono (by decide)) (passes_call (takes_of rfl rfl rfl rfl) (fun _ _ _ _ h => h)) (pa_cons (pe_fld (pv 0) rfl) (pa_cons (pv 1) pa_nil))))
      (pss_cons (ps_if (pt_cmp (pc_isN (pv 2))) (pss_one (ps_raise rfl (takes_of rfl rfl rfl rfl) (pmk_own PySem.F.excBase_ValueError (T.f.ex .away).q T.gAway (T.f.ex .away).k (raises_own (T.f.ex .away).b (T.f.ex .away).t) (by rfl)))) pss_nil)
      (pss_cons (ps_expr (pe_fn c_leave_seat (hr.mono (by decide)) pass0 (pa_cons (pe_fld (pv 0) rfl) (pa_cons (pv 2) pa_nil))))
      (pss_cons (ps_set (i := 3) sc_House_go.nd rfl (.inl rfl) (pe_fn c_room (hr.mono (by decide)) pass0 (pa_cons (CalM.use c_House_many fun f fd F hm hb => pe_meth0 (pv 0) T.h.cl hm F (hr.mono (by decide)) hb .nil pass0) pa_nil)))
      (pss_cons (ps_if (pt_cmpR op_ne (pv 3) (pe_callB call_len_seq (by rfl) B.len (by decide +kernel) (pa_cons (pe_fld (pv 0) rfl) pa_nil)) (nomark _)) (pss_one (ps_fld (pv 0) (pe_fn c_seated (hr.mono (by decide)) (passes_call (takes_of rfl rfl rfl rfl) (fun _ _ _ _ h => h)) (pa_cons (CalM.use c_House_guests fun f fd F hm hb => pe_meth0 (pv 0) T.h.cl hm F (hr.mono (by decide)) hb .nil pass0) (pa_cons (pv 3) pa_nil))) rfl)) pss_nil)
      (PSs.nox (pss_one (ps_ret (pv 2)))))))))
theorem cal_House_go {P : Program} {w : World} {K : PySem.W.Frag} {mg : Str → Option Value} {base : Heap} {C : Cs} (D : DefM K C.cHouse "go" "House.go" s_House_go) (B : Bl mg) (T : TopH K mg C) (c_place_of : Cal P w K mg base (L2.CX P w) 5 "place_of" ["seats", "guest"] (sp_place_of K C)) (c_leave_seat : Cal P w K mg base CX0 3 "leave_seat" ["seats", "at"] (sp_leave_seat K C)) (c_House_many : CalM P w K mg base CX0 1 C.cHouse "many" ["self"] (sp_House_many K C)) (c_room : Cal P w K mg base CX0 1 "room" ["count"] (sp_room K C)) (c_House_guests : CalM P w K mg base CX0 1 C.cHouse "guests" ["self"] (sp_House_guests K C)) (c_seated : Cal P w K mg base (L2.CX P w) 6 "seated" ["guests", "many"] (sp_seated K C)) :
    CalM P w K mg base (L2.CX P w) 7 C.cHouse "go" ["self", "guest"] (sp_House_go K C) := by
  obtain ⟨f, fd, F, hm⟩ := D.ex
  exact ⟨f, fd, ok_House_go F B T c_place_of c_leave_seat c_House_many c_room c_House_guests c_seated, hm, F.binds (ps := ["self", "guest"]) fun _ _ _ _ _ _ us hl => match us, hl with | [_, _], _ => rfl⟩
abbrev s_House_seat_of : Stmt := inClass (topS 22) 3
theorem sc_House_seat_of : FnScope ["self", "guest"] ["self", "guest"] (defScope s_House_seat_of) := ⟨rfl, rfl, rfl, by decide +kernel, rfl, by decide +kernel, by decide +kernel⟩
theorem ok_House_seat_of {P : Program} {w : World} {K : PySem.W.Frag} {mg : Str → Option Value} {base : Heap} {C : Cs} {f : Addr} {fd : FuncData} (F : Fun K "seat_of" "House.seat_of" s_House_seat_of f fd) (B : Bl mg) (T : TopH K mg C) (c_place_of : Cal P w K mg base (L2.CX P w) 5 "place_of" ["seats", "guest"] (sp_place_of K C)) :
    FnOk P w K mg base (L2.CX P w) 6 f fd ["self", "guest"] (sp_House_seat_of K C) := by
  refine F.okX sc_House_seat_of (fun vs H Q E h => len_House_seat_of h) (fun cdv A outer s H vs Q E hr h => ⟨t_House_seat_of K C E, ?_, pure_House_seat_of T.f T.h h⟩)
  have hu := hu_of hr
  exact (pss_one (ps_ret (pe_fn c_place_of (hr.mono (by decide)) (passes_call (takes_of rfl rfl rfl rfl) (fun _ _ _ _ h => h)) (pa_cons (pe_fld (pv 0) rfl) (pa_cons (pv 1) pa_nil)))))
theorem cal_House_seat_of {P : Program} {w : World} {K : PySem.W.Frag} {mg : Str → Option Value} {base : Heap} {C : Cs} (D : DefM K C.cHouse "seat_of" "House.seat_of" s_House_seat_of) (B : Bl mg) (T : TopH K mg C) (c_place_of : Cal P w K mg base (L2.CX P w) 5 "place_of" ["seats", "guest"] (sp_place_of K C)) :
    CalM P w K mg base (L2.CX P w) 6 C.cHouse "seat_of" ["self", "guest"] (sp_House_seat_of K C) := by
  obtain ⟨f, fd, F, hm⟩ := D.ex
  exact ⟨f, fd, ok_House_seat_of F B T c_place_of, hm, F.binds (ps := ["self", "guest"]) fun _ _ _ _ _ _ us hl => match us, hl with | [_, _], _ => rfl⟩
abbrev s_House_row : Stmt := inClass (topS 22) 4
theorem sc_House_row : FnScope ["self"] ["self"] (defScope s_House_row) := ⟨rfl, rfl, rfl, by decide +kernel, rfl, by decide +kernel, by decide +kernel⟩
theorem ok_House_row {P : Program} {w : World} {K : PySem.W.Frag} {mg : Str → Option Value} {base : Heap} {C : Cs} {f : Addr} {fd : FuncData} (F : Fun K "row" "House.row" s_House_row f fd) (B : Bl mg) (T : TopH K mg C) :
    FnOk P w K mg base CX0 1 f fd ["self"] (sp_House_row K C) := by
  refine F.ok sc_House_row (fun vs H Q E h => len_House_row h) (fun cdv A outer s H vs Q E hr h => ⟨t_House_row K C E, ?_, pure_House_row T.f T.h h⟩)
  have hu := hu_of hr
  exact (pss_one (ps_ret (pe_callTy call_list_of (by rfl) B.list (by decide +kernel) (pa_cons (pe_fld (pv 0) rfl) pa_nil))))
theorem cal_House_row {P : Program} {w : World} {K : PySem.W.Frag} {mg : Str → Option Value} {base : Heap} {C : Cs} (D : DefM K C.cHouse "row" "House.row" s_House_row) (B : Bl mg) (T : TopH K mg C) :
    CalM P w K mg base CX0 1 C.cHouse "row" ["self"] (sp_House_row K C) := by
  obtain ⟨f, fd, F, hm⟩ := D.ex
  exact ⟨f, fd, ok_House_row F B T, hm, F.binds (ps := ["self"]) fun _ _ _ _ _ _ us hl => match us, hl with | [_], _ => rfl⟩
abbrev s_House_guests : Stmt := inClass (topS 22) 5
theorem sc_House_guests : FnScope ["self", "guest"] ["self"] (defScope s_House_guests) := ⟨rfl, rfl, rfl, by decide +kernel, rfl, by decide +kernel, by decide +kernel⟩
theorem ok_House_guests {P : Program} {w : World} {K : PySem.W.Frag} {mg : Str → Option Value} {base : Heap} {C : Cs} {f : Addr} {fd : FuncData} (F : Fun K "guests" "House.guests" s_House_guests f fd) (B : Bl mg) (T : TopH K mg C) :
    FnOk P w K mg base CX0 1 f fd ["self"] (sp_House_guests K C) := by
  refine F.ok sc_House_guests (fun vs H Q E h => len_House_guests h) (fun cdv A outer s H vs Q E hr h => ⟨t_House_guests K C E, ?_, pure_House_guests T.f T.h h⟩)
  have hu := hu_of hr
  exact (pss_one (ps_ret (pe_callB cr_sortedI (by rfl) B.sorted (by decide +kernel) (pa_cons (pe_lc (own := [("guest", 1)]) (g := gName 1) rfl sc_House_guests.nd (pi_list (pe_fld (pv 0) rfl)) (blkOk_by (N := ["self", "guest"]) (sc := defScope s_House_guests) (by decide +kernel)) (fun _ _ _ _ _ => pg_name (i := 1) sc_House_guests.nd rfl (Or.inl rfl)) (fun _ _ _ _ _ => (pts_one (pt_cmp (pc_notN (pv 1))))) (fun _ _ _ _ _ => (pv 1))) pa_nil))))
theorem cal_House_guests {P : Program} {w : World} {K : PySem.W.Frag} {mg : Str → Option Value} {base : Heap} {C : Cs} (D : DefM K C.cHouse "guests" "House.guests" s_House_guests) (B : Bl mg) (T : TopH K mg C) :
    CalM P w K mg base CX0 1 C.cHouse "guests" ["self"] (sp_House_guests K C) := by
  obtain ⟨f, fd, F, hm⟩ := D.ex
  exact ⟨f, fd, ok_House_guests F B T, hm, F.binds (ps := ["self"]) fun _ _ _ _ _ _ us hl => match us, hl with | [_], _ => rfl⟩
abbrev s_House_many : Stmt := inClass (topS 22) 6
theorem sc_House_many : FnScope ["self"] ["self"] (defScope s_House_many) := ⟨rfl, rfl, rfl, by decide +kernel, rfl, by decide +kernel, by decide +kernel⟩
theorem ok_House_many {P : Program} {w : World} {K : PySem.W.Frag} {mg : Str → Option Value} {base : Heap} {C : Cs} {f : Addr} {fd : FuncData} (F : Fun K "many" "House.many" s_House_many f fd) (B : Bl mg) (T : TopH K mg C) :
    FnOk P w K mg base CX0 1 f fd ["self"] (sp_House_many K C) := by
  refine F.ok sc_House_many (fun vs H Q E h => len_House_many h) (fun cdv A outer s H vs Q E hr h => ⟨t_House_many K C E, ?_, pure_House_many T.f T.h h⟩)
  have hu := hu_of hr
  exact (pss_one (ps_ret (pe_op op_sub (pe_callB call_len_seq (by rfl) B.len (by decide +kernel) (pa_cons (pe_fld (pv 0) rfl) pa_nil)) (pe_bm PySem.F.plainAttrs_list PySem.F.slot_list_count PySem.F.type_list_count mt_countL (pe_fld (pv 0) rfl) (pa_cons pe_non pa_nil)))))
theorem cal_House_many {P : Program} {w : World} {K : PySem.W.Frag} {mg : Str → Option Value} {base : Heap} {C : Cs} (D : DefM K C.cHouse "many" "House.many" s_House_many) (B : Bl mg) (T : TopH K mg C) :
    CalM P w K mg base CX0 1 C.cHouse "many" ["self"] (sp_House_many K C) := by
  obtain ⟨f, fd, F, hm⟩ := D.ex
  exact ⟨f, fd, ok_House_many F B T, hm, F.binds (ps := ["self"]) fun _ _ _ _ _ _ us hl => match us, hl with | [_], _ => rfl⟩
abbrev s_law_cell_at : Stmt := topS 24
theorem sc_law_cell_at : FnScope ["_law_script", "_law_k"] ["_law_script", "_law_k"] (defScope s_law_cell_at) := ⟨rfl, rfl, rfl, by decide +kernel, rfl, by decide +kernel, by decide +kernel⟩
theorem ok_law_cell_at {P : Program} {w : World} {K : PySem.W.Frag} {mg : Str → Option Value} {base : Heap} {C : Cs} {f : Addr} {fd : FuncData} (F : Fun K "_law_cell_at" "_law_cell_at" s_law_cell_at f fd) (B : Bl mg) (T : TopH K mg C) :
    FnOk P w K mg base CX0 1 f fd ["_law_script", "_law_k"] (sp_law_cell_at K C) := by
  refine F.ok sc_law_cell_at (fun vs H Q E h => len_law_cell_at h) (fun cdv A outer s H vs Q E hr h => ⟨t_law_cell_at K C E, ?_, pure_law_cell_at T.f T.h h⟩)
  have hu := hu_of hr
  exact (pss_cons (ps_if (pt_cmpR op_lt (pv 1) (pe_callB call_len_seq (by rfl) B.len (by decide +kernel) (pa_cons (pv 0) pa_nil)) (nomark _)) (pss_one (ps_ret (pe_ix ix_list (pv 0) (pv 1) (fun _ _ => rfl)))) pss_nil)
      (pss_one (ps_ret pe_int)))
theorem cal_law_cell_at {P : Program} {w : World} {K : PySem.W.Frag} {mg : Str → Option Value} {base : Heap} {C : Cs} (D : Def K mg "_law_cell_at" s_law_cell_at) (B : Bl mg) (T : TopH K mg C) :
    Cal P w K mg base CX0 1 "_law_cell_at" ["_law_script", "_law_k"] (sp_law_cell_at K C) := by
  obtain ⟨f, fd, F, hm⟩ := D.ex
  exact ⟨f, fd, ok_law_cell_at F B T, hm, F.kp, F.binds (ps := ["_law_script", "_law_k"]) fun _ _ _ _ _ _ us hl => match us, hl with | [_, _], _ => rfl⟩
abbrev s_law_whole : Stmt := topS 25
theorem sc_law_whole : FnScope ["_law_found"] ["_law_found"] (defScope s_law_whole) := ⟨rfl, rfl, rfl, by decide +kernel, rfl, by decide +kernel, by decide +kernel⟩
theorem ok_law_whole {P : Program} {w : World} {K : PySem.W.Frag} {mg : Str → Option Value} {base : Heap} {C : Cs} {f : Addr} {fd : FuncData} (F : Fun K "_law_whole" "_law_whole" s_law_whole f fd) (B : Bl mg) (T : TopH K mg C) :
    FnOk P w K mg base CX0 1 f fd ["_law_found"] (sp_law_whole K C) := by
  refine F.ok sc_law_whole (fun vs H Q E h => len_law_whole h) (fun cdv A outer s H vs Q E hr h => ⟨t_law_whole K C E, ?_, pure_law_whole T.f T.h h⟩)
  have hu := hu_of hr
  exact (pss_one (ps_ret (pe_and (pe_callB call_isA (by rfl) B.isinstance (by decide +kernel) (pa_cons (pv 0) (pa_cons (pe_bltn (v := .ty "int") (by rfl) B.int (by decide +kernel) rfl) pa_nil))) (pe_one (pe_not (pe_callB call_isA (by rfl) B.isinstance (by decide +kernel) (pa_cons (pv 0) (pa_cons (pe_bltn (v := .ty "bool") (by rfl) B.bool (by decide +kernel) rfl) pa_nil))))))))
theorem cal_law_whole {P : Program} {w : World} {K : PySem.W.Frag} {mg : Str → Option Value} {base : Heap} {C : Cs} (D : Def K mg "_law_whole" s_law_whole) (B : Bl mg) (T : TopH K mg C) :
    Cal P w K mg base CX0 1 "_law_whole" ["_law_found"] (sp_law_whole K C) := by
  obtain ⟨f, fd, F, hm⟩ := D.ex
  exact ⟨f, fd, ok_law_whole F B T, hm, F.kp, F.binds (ps := ["_law_found"]) fun _ _ _ _ _ _ us hl => match us, hl with | [_], _ => rfl⟩
abbrev s_law_home : Stmt := topS 26
theorem sc_law_home : FnScope ["_law_guest_here", "_law_many"] ["_law_guest_here", "_law_many"] (defScope s_law_home) := ⟨rfl, rfl, rfl, by decide +kernel, rfl, by decide +kernel, by decide +kernel⟩
theorem ok_law_home {P : Program} {w : World} {K : PySem.W.Frag} {mg : Str → Option Value} {base : Heap} {C : Cs} {f : Addr} {fd : FuncData} (F : Fun K "_law_home" "_law_home" s_law_home f fd) (B : Bl mg) (T : TopH K mg C) :
    FnOk P w K mg base CX0 1 f fd ["_law_guest_here", "_law_many"] (sp_law_home K C) := by
  refine F.ok sc_law_home (fun vs H Q E h => len_law_home h) (fun cdv A outer s H vs Q E hr h => ⟨t_law_home K C E, ?_, pure_law_home T.f T.h h⟩)
  have hu := hu_of hr
  exact (pss_one (ps_ret (pe_op op_mod (pe_op op_mod (pe_op op_add (pe_op op_mulL (pv 0) pe_int) (pe_op op_fdiv (pv 0) pe_int)) pe_int) (pv 1))))
theorem cal_law_home {P : Program} {w : World} {K : PySem.W.Frag} {mg : Str → Option Value} {base : Heap} {C : Cs} (D : Def K mg "_law_home" s_law_home) (B : Bl mg) (T : TopH K mg C) :
    Cal P w K mg base CX0 1 "_law_home" ["_law_guest_here", "_law_many"] (sp_law_home K C) := by
  obtain ⟨f, fd, F, hm⟩ := D.ex
  exact ⟨f, fd, ok_law_home F B T, hm, F.kp, F.binds (ps := ["_law_guest_here", "_law_many"]) fun _ _ _ _ _ _ us hl => match us, hl with | [_, _], _ => rfl⟩
abbrev s_law_base : Stmt := topS 27
theorem sc_law_base : FnScope ["_law_cell"] ["_law_cell"] (defScope s_law_base) := ⟨rfl, rfl, rfl, by decide +kernel, rfl, by decide +kernel, by decide +kernel⟩
theorem ok_law_base {P : Program} {w : World} {K : PySem.W.Frag} {mg : Str → Option Value} {base : Heap} {C : Cs} {f : Addr} {fd : FuncData} (F : Fun K "_law_base" "_law_base" s_law_base f fd) (B : Bl mg) (T : TopH K mg C) :
    FnOk P w K mg base CX0 1 f fd ["_law_cell"] (sp_law_base K C) := by
  refine F.ok sc_law_base (fun vs H Q E h => len_law_base h) (fun cdv A outer s H vs Q E hr h => ⟨t_law_base K C E, ?_, pure_law_base T.f T.h h⟩)
  have hu := hu_of hr
  exact (pss_cons (ps_if (pt_cmpR op_eq (pe_op op_mod (pv 0) pe_int) pe_int (nomark _)) (pss_one (ps_ret (pe_op op_mod (pe_op op_fdiv (pv 0) pe_int) (pe_pow (m := 10) (n := 58) (N := 10000000000000000000000000000000000000000000000000000000000) rfl rfl (by decide +kernel) (by decide) (by decide))))) pss_nil)
      (pss_one (ps_ret (pe_op op_mod (pe_op op_fdiv (pv 0) pe_int) pe_int))))
theorem cal_law_base {P : Program} {w : World} {K : PySem.W.Frag} {mg : Str → Option Value} {base : Heap} {C : Cs} (D : Def K mg "_law_base" s_law_base) (B : Bl mg) (T : TopH K mg C) :
    Cal P w K mg base CX0 1 "_law_base" ["_law_cell"] (sp_law_base K C) := by
  obtain ⟨f, fd, F, hm⟩ := D.ex
  exact ⟨f, fd, ok_law_base F B T, hm, F.kp, F.binds (ps := ["_law_cell"]) fun _ _ _ _ _ _ us hl => match us, hl with | [_], _ => rfl⟩
abbrev s_law_guest : Stmt := topS 28
theorem sc_law_guest : FnScope ["_law_cell", "_law_base_here", "_law_number"] ["_law_cell", "_law_base_here"] (defScope s_law_guest) := ⟨rfl, rfl, rfl, by decide +kernel, rfl, by decide +kernel, by decide +kernel⟩
theorem ok_law_guest {P : Program} {w : World} {K : PySem.W.Frag} {mg : Str → Option Value} {base : Heap} {C : Cs} {f : Addr} {fd : FuncData} (F : Fun K "_law_guest" "_law_guest" s_law_guest f fd) (B : Bl mg) (T : TopH K mg C) :
    FnOk P w K mg base CX0 1 f fd ["_law_cell", "_law_base_here"] (sp_law_guest K C) := by
  refine F.ok sc_law_guest (fun vs H Q E h => len_law_guest h) (fun cdv A outer s H vs Q E hr h => ⟨t_law_guest K C E, ?_, pure_law_guest T.f T.h h⟩)
  have hu := hu_of hr
  exact (pss_cons (ps_set (i := 2) sc_law_guest.nd rfl (.inl rfl) (pe_op op_fdiv (pv 0) pe_int))
      (pss_cons (ps_if (pt_cmpR op_eq (pe_op op_mod (pv 0) pe_int) pe_int (nomark _)) (pss_one (ps_ret (pe_op op_mod (pv 2) (pe_pow (m := 10) (n := 60) (N := 1000000000000000000000000000000000000000000000000000000000000) rfl rfl (by decide +kernel) (by decide) (by decide))))) pss_nil)
      (pss_cons (ps_if (pt_cmpR op_eq (pe_op op_mod (pv 0) pe_int) pe_int (nomark _)) (pss_one (ps_ret (pe_op op_mod (pv 2) pe_int))) pss_nil)
      (pss_cons (ps_if (pt_cmpR op_eq (pe_op op_mod (pv 0) pe_int) pe_int (nomark _)) (pss_one (ps_ret (pe_op op_add (pv 1) (pe_op op_mulL (pe_pow (m := 2) (n := 32) (N := 4294967296) rfl rfl (by decide +kernel) (by decide) (by decide)) (pe_op op_mod (pv 2) (pe_pow (m := 10) (n := 40) (N := 10000000000000000000000000000000000000000) rfl rfl (by decide +kernel) (by decide) (by decide))))))) pss_nil)
      (pss_cons (ps_if (pt_cmpR op_eq (pe_op op_mod (pv 0) pe_int) pe_int (nomark _)) (pss_one (ps_ret (pe_op op_add (pv 1) (pe_op op_mulL pe_int (pe_op op_mod (pv 2) pe_int))))) pss_nil)
      (pss_one (ps_ret (pe_op op_add (pe_op op_add (pv 1) (pe_op op_mulL pe_int (pe_op op_mod (pv 2) pe_int))) (pe_op op_mulL (pe_pow (m := 2) (n := 32) (N := 4294967296) rfl rfl (by decide +kernel) (by decide) (by decide)) (pe_op op_mod (pe_op op_fdiv (pv 2) pe_int) pe_int))))))))))
theorem cal_law_guest {P : Program} {w : World} {K : PySem.W.Frag} {mg : Str → Option Value} {base : Heap} {C : Cs} (D : Def K mg "_law_guest" s_law_guest) (B : Bl mg) (T : TopH K mg C) :
    Cal P w K mg base CX0 1 "_law_guest" ["_law_cell", "_law_base_here"] (sp_law_guest K C) := by
  obtain ⟨f, fd, F, hm⟩ := D.ex
  exact ⟨f, fd, ok_law_guest F B T, hm, F.kp, F.binds (ps := ["_law_cell", "_law_base_here"]) fun _ _ _ _ _ _ us hl => match us, hl with | [_, _], _ => rfl⟩
abbrev s_law_room : Stmt := topS 29
theorem sc_law_room : FnScope ["_law_count", "_law_many"] ["_law_count"] (defScope s_law_room) := ⟨rfl, rfl, rfl, by decide +kernel, rfl, by decide +kernel, by decide +kernel⟩
theorem ok_law_room {P : Program} {w : World} {K : PySem.W.Frag} {mg : Str → Option Value} {base : Heap} {C : Cs} {f : Addr} {fd : FuncData} (F : Fun K "_law_room" "_law_room" s_law_room f fd) (B : Bl mg) (T : TopH K mg C) :
    FnOk P w K mg base CX0 1 f fd ["_law_count"] (sp_law_room K C) := by
  refine F.ok sc_law_room (fun vs H Q E h => len_law_room h) (fun cdv A outer s H vs Q E hr h => ⟨t_law_room K C E, ?_, pure_law_room T.f T.h h⟩)
  have hu := hu_of hr
  exact (pss_cons (ps_set (i := 1) sc_law_room.nd rfl (.inl rfl) pe_int)
      (pss_cons (ps_while PassesOwn.never (pt_cmpR op_gt (pe_op op_mulL pe_int (pv 0)) (pe_op op_mulL pe_int (pv 1)) (nomark _)) (pss_one (ps_set (i := 1) sc_law_room.nd rfl (.inl rfl) (pe_op op_mulL (pv 1) pe_int))))
      (pss_one (ps_ret (pv 1)))))
theorem cal_law_room {P : Program} {w : World} {K : PySem.W.Frag} {mg : Str → Option Value} {base : Heap} {C : Cs} (D : Def K mg "_law_room" s_law_room) (B : Bl mg) (T : TopH K mg C) :
    Cal P w K mg base CX0 1 "_law_room" ["_law_count"] (sp_law_room K C) := by
  obtain ⟨f, fd, F, hm⟩ := D.ex
  exact ⟨f, fd, ok_law_room F B T, hm, F.kp, F.binds (ps := ["_law_count"]) fun _ _ _ _ _ _ us hl => match us, hl with | [_], _ => rfl⟩
abbrev s_law_settled : Stmt := topS 30
theorem sc_law_settled : FnScope ["_law_seats", "_law_many", "_law_guests", "_law_at_here", "_law_way", "_law_before", "_law_guest_here"] ["_law_seats", "_law_many", "_law_guests"] (defScope s_law_settled) := ⟨rfl, rfl, rfl, by decide +kernel, rfl, by decide +kernel, by decide +kernel⟩
theorem ok_law_settled {P : Program} {w : World} {K : PySem.W.Frag} {mg : Str → Option Value} {base : Heap} {C : Cs} {f : Addr} {fd : FuncData} (F : Fun K "_law_settled" "_law_settled" s_law_settled f fd) (B : Bl mg) (T : TopH K mg C) (c_law_whole : Cal P w K mg base CX0 1 "_law_whole" ["_law_found"] (sp_law_whole K C)) (c_law_home : Cal P w K mg base CX0 1 "_law_home" ["_law_guest_here", "_law_many"] (sp_law_home K C)) :
    FnOk P w K mg base CX0 2 f fd ["_law_seats", "_law_many", "_law_guests"] (sp_law_settled K C) := by
  refine F.ok sc_law_settled (fun vs H Q E h => len_law_settled h) (fun cdv A outer s H vs Q E hr h => ⟨t_law_settled K C E, ?_, pure_law_settled T.f T.h h⟩)
  have hu := hu_of hr
  exact (pss_cons (ps_if (PW.pt (pw_or (pt_not (pt_val (pe_callB call_isA (by rfl) B.isinstance (by decide +kernel) (pa_cons (pv 0) (pa_cons (pe_bltn (v := .ty "list") (by rfl) B.list (by decide +kernel) rfl) pa_nil))))) (pw_or (pt_cmpR op_ne (pe_callB call_len_seq (by rfl) B.len (by decide +kernel) (pa_cons (pv 0) pa_nil)) (pv 1) (nomark _)) (pw_or1 (pt_cmpR op_notIn_seq pe_non (pv 0) (by rfl)))))) (pss_one (ps_ret pe_bl)) pss_nil)
      (pss_cons (ps_for PassesOwn.never rfl (pi_range1 (by rfl) B.range (pa_cons (pv 1) pa_nil)) (pg_name (i := 3) sc_law_settled.nd rfl (.inl rfl)) (pss_one (ps_if (pt_cmp (pc_notN (pe_ix ix_list (pv 0) (pv 3) (fun _ _ => rfl)))) (pss_cons (ps_if (pt_not (pt_val (pe_fn c_law_whole (hr.mono (by decide)) pass0 (pa_cons (pe_ix ix_list (pv 0) (pv 3) (fun _ _ => rfl)) pa_nil)))) (pss_one (ps_ret pe_bl)) pss_nil)
      (pss_cons (ps_set (i := 4) sc_law_settled.nd rfl (.inl rfl) (pe_op op_mod (pe_op op_sub (pv 3) (pe_fn c_law_home (hr.mono (by decide)) pass0 (pa_cons (pe_ix ix_list (pv 0) (pv 3) (fun _ _ => rfl)) (pa_cons (pv 1) pa_nil)))) (pv 1)))
      (pss_cons (ps_if (PW.pt (pw_and (pt_cmpR op_gt (pv 4) pe_int (nomark _)) (pw_and1 (pt_cmp (pc_isN (pe_ix ix_list (pv 0) (pe_op op_sub (pv 3) pe_int) (fun _ _ => rfl))))))) (pss_one (ps_ret pe_bl)) pss_nil)
      (pss_one (ps_if (pt_cmpR op_gt (pv 4) pe_int (nomark _)) (pss_cons (ps_set (i := 5) sc_law_settled.nd rfl (.inl rfl) (pe_op op_add (pe_op op_mod (pe_op op_sub (pe_op op_sub (pv 3) pe_int) (pe_fn c_law_home (hr.mono (by decide)) pass0 (pa_cons (pe_ix ix_list (pv 0) (pe_op op_sub (pv 3) pe_int) (fun _ _ => rfl)) (pa_cons (pv 1) pa_nil)))) (pv 1)) pe_int))
      (pss_one (ps_if (PW.pt (pw_or (pt_cmpR op_lt (pv 5) (pv 4) (nomark _)) (pw_or1 (PW.pt (pw_and (pt_cmpR op_eq (pv 5) (pv 4) (nomark _)) (pw_and1 (pt_cmpR op_ge (pe_ix ix_list (pv 0) (pe_op op_sub (pv 3) pe_int) (fun _ _ => rfl)) (pe_ix ix_list (pv 0) (pv 3) (fun _ _ => rfl)) (nomark _)))))))) (pss_one (ps_ret pe_bl)) pss_nil))) pss_nil))))) pss_nil)))
      (pss_one (ps_ret (pe_cmpR (op_eqD hr.units) (pe_callB cr_sortedI (by rfl) B.sorted (by decide +kernel) (pa_cons (pe_lc (own := [("_law_guest_here", 6)]) (g := gName 6) rfl sc_law_settled.nd (pi_list (pv 0)) (blkOk_by (N := ["_law_seats", "_law_many", "_law_guests", "_law_at_here", "_law_way", "_law_before", "_law_guest_here"]) (sc := defScope s_law_settled) (by decide +kernel)) (fun _ _ _ _ _ => pg_name (i := 6) sc_law_settled.nd rfl (Or.inl rfl)) (fun _ _ _ _ _ => (pts_one (pt_cmp (pc_notN (pv 6))))) (fun _ _ _ _ _ => (pv 6))) pa_nil)) (pe_callB cr_sortedI (by rfl) B.sorted (by decide +kernel) (pa_cons (pv 2) pa_nil)) (nomark _))))))
theorem cal_law_settled {P : Program} {w : World} {K : PySem.W.Frag} {mg : Str → Option Value} {base : Heap} {C : Cs} (D : Def K mg "_law_settled" s_law_settled) (B : Bl mg) (T : TopH K mg C) (c_law_whole : Cal P w K mg base CX0 1 "_law_whole" ["_law_found"] (sp_law_whole K C)) (c_law_home : Cal P w K mg base CX0 1 "_law_home" ["_law_guest_here", "_law_many"] (sp_law_home K C)) :
    Cal P w K mg base CX0 2 "_law_settled" ["_law_seats", "_law_many", "_law_guests"] (sp_law_settled K C) := by
  obtain ⟨f, fd, F, hm⟩ := D.ex
  exact ⟨f, fd, ok_law_settled F B T c_law_whole c_law_home, hm, F.kp, F.binds (ps := ["_law_seats", "_law_many", "_law_guests"]) fun _ _ _ _ _ _ us hl => match us, hl with | [_, _, _], _ => rfl⟩
abbrev s_law_most : Stmt := topS 31
theorem sc_law_most : FnScope ["_law_cell"] ["_law_cell"] (defScope s_law_most) := ⟨rfl, rfl, rfl, by decide +kernel, rfl, by decide +kernel, by decide +kernel⟩
theorem ok_law_most {P : Program} {w : World} {K : PySem.W.Frag} {mg : Str → Option Value} {base : Heap} {C : Cs} {f : Addr} {fd : FuncData} (F : Fun K "_law_most" "_law_most" s_law_most f fd) (B : Bl mg) (T : TopH K mg C) :
    FnOk P w K mg base CX0 1 f fd ["_law_cell"] (sp_law_most K C) := by
  refine F.ok sc_law_most (fun vs H Q E h => len_law_most h) (fun cdv A outer s H vs Q E hr h => ⟨t_law_most K C E, ?_, pure_law_most T.f T.h h⟩)
  have hu := hu_of hr
  exact (pss_cons (ps_if (pt_cmpR op_eq (pe_op op_mod (pv 0) pe_int) pe_int (nomark _)) (pss_one (ps_ret pe_int)) pss_nil)
      (pss_cons (ps_if (pt_cmpR op_eq (pe_op op_mod (pv 0) pe_int) pe_int (nomark _)) (pss_one (ps_ret (pe_op op_add pe_int (pe_op op_mod (pe_op op_fdiv (pv 0) pe_int) pe_int)))) pss_nil)
      (pss_one (ps_ret (pe_op op_mod (pe_op op_fdiv (pv 0) pe_int) pe_int)))))
theorem cal_law_most {P : Program} {w : World} {K : PySem.W.Frag} {mg : Str → Option Value} {base : Heap} {C : Cs} (D : Def K mg "_law_most" s_law_most) (B : Bl mg) (T : TopH K mg C) :
    Cal P w K mg base CX0 1 "_law_most" ["_law_cell"] (sp_law_most K C) := by
  obtain ⟨f, fd, F, hm⟩ := D.ex
  exact ⟨f, fd, ok_law_most F B T, hm, F.kp, F.binds (ps := ["_law_cell"]) fun _ _ _ _ _ _ us hl => match us, hl with | [_], _ => rfl⟩
abbrev s_law_house : Stmt := topS 32
theorem sc_law_house : FnScope ["_law_cell"] ["_law_cell"] (defScope s_law_house) := ⟨rfl, rfl, rfl, by decide +kernel, rfl, by decide +kernel, by decide +kernel⟩
theorem ok_law_house {P : Program} {w : World} {K : PySem.W.Frag} {mg : Str → Option Value} {base : Heap} {C : Cs} {f : Addr} {fd : FuncData} (F : Fun K "_law_house" "_law_house" s_law_house f fd) (B : Bl mg) (T : TopH K mg C) (c_House_init : CalI P w K mg base 2 C.cHouse ["self", "most"] (.int 96) (sp_House_init K C)) (c_law_most : Cal P w K mg base CX0 1 "_law_most" ["_law_cell"] (sp_law_most K C)) :
    FnOk P w K mg base CX0 4 f fd ["_law_cell"] (sp_law_house K C) := by
  refine F.ok sc_law_house (fun vs H Q E h => len_law_house h) (fun cdv A outer s H vs Q E hr h => ⟨t_law_house K C E, ?_, pure_law_house T.f T.h h⟩)
  have hu := hu_of hr
  exact (pss_cons (ps_if (pt_cmpR op_eq (pe_op op_mod (pv 0) pe_int) pe_int (nomark _)) (pss_one (ps_ret (CalI.use c_House_init fun f fd F hm hb hd => Exists.elim hd fun d hd => pe_make0 hm F (hr.mono (by decide)) (by rfl) T.gHouse hd.2 (.cons hd.1 .nil) passL))) pss_nil)
      (pss_one (ps_ret (CalI.use c_House_init fun f fd F hm hb hd => pe_make hm F (hr.mono (by decide)) (by rfl) T.gHouse hb .nil passL (pa_cons (pe_fn c_law_most (hr.mono (by decide)) pass0 (pa_cons (pv 0) pa_nil)) pa_nil)))))
theorem cal_law_house {P : Program} {w : World} {K : PySem.W.Frag} {mg : Str → Option Value} {base : Heap} {C : Cs} (D : Def K mg "_law_house" s_law_house) (B : Bl mg) (T : TopH K mg C) (c_House_init : CalI P w K mg base 2 C.cHouse ["self", "most"] (.int 96) (sp_House_init K C)) (c_law_most : Cal P w K mg base CX0 1 "_law_most" ["_law_cell"] (sp_law_most K C)) :
    Cal P w K mg base CX0 4 "_law_house" ["_law_cell"] (sp_law_house K C) := by
  obtain ⟨f, fd, F, hm⟩ := D.ex
  exact ⟨f, fd, ok_law_house F B T c_House_init c_law_most, hm, F.kp, F.binds (ps := ["_law_cell"]) fun _ _ _ _ _ _ us hl => match us, hl with | [_], _ => rfl⟩
abbrev s_law_done : Stmt := topS 33
theorem sc_law_done : FnScope ["_law_house_here", "_law_guest_here", "_law_comes", "e"] ["_law_house_here", "_law_guest_here", "_law_comes"] (defScope s_law_done) := ⟨rfl, rfl, rfl, by decide +kernel, rfl, by decide +kernel, by decide +kernel⟩
theorem ok_law_done {P : Program} {w : World} {K : PySem.W.Frag} {mg : Str → Option Value} {base : Heap} {C : Cs} {f : Addr} {fd : FuncData} (F : Fun K "_law_done" "_law_done" s_law_done f fd) (B : Bl mg) (T : TopH K mg C) (c_House_come : CalM P w K mg base (L2.CX P w) 7 C.cHouse "come" ["self", "guest"] (sp_House_come K C)) (c_House_go : CalM P w K mg base (L2.CX P w) 7 C.cHouse "go" ["self", "guest"] (sp_House_go K C)) :
    FnOk P w K mg base CX0 8 f fd ["_law_house_here", "_law_guest_here", "_law_comes"] (sp_law_done K C) := by
  refine F.ok sc_law_done (fun vs H Q E h => len_law_done h) (fun cdv A outer s H vs Q E hr h => ⟨t_law_done K C E, ?_, pure_law_done T.f T.h h⟩)
  have hu := hu_of hr
  exact (pss_one (ps_try_as (i := 3) (tb := t_law_done_b1_try K C E) (ts := t_law_done_b1_exc K C E) rfl rfl sc_law_done.nd rfl rfl ⟨rfl, by decide, .inl T.gRingError⟩ takes0 (fun W pn xe tk _ => (pss_cons (ps_if (pt_val (pv 2)) (pss_one (ps_ret (CalM.use c_House_come fun f fd F hm hb => pe_methW (pv 0) T.h.cl hm F (hr.mono (by decide)) hb (fun σ => passAt tk σ) (pa_cons (pv 1) pa_nil)))) pss_nil)
      (pss_one (ps_ret (CalM.use c_House_go fun f fd F hm hb => pe_methW (pv 0) T.h.cl hm F (hr.mono (by decide)) hb (fun σ => passAt tk σ) (pa_cons (pv 1) pa_nil)))))) (fun a oe cls d pn hz hf => (pss_one (ps_ret (pe_lst (pa_cons (pe_callB (call_isX T.f hz hf) (by rfl) B.isinstance (by decide +kernel) (pa_cons (pv 3) (pa_cons (pe_glob (v := .ref C.cTwice) (by rfl) T.gTwice rfl) pa_nil))) (pa_cons (pe_callB (call_isX T.f hz hf) (by rfl) B.isinstance (by decide +kernel) (pa_cons (pv 3) (pa_cons (pe_glob (v := .ref C.cFull) (by rfl) T.gFull rfl) pa_nil))) (pa_cons (pe_callB (call_isX T.f hz hf) (by rfl) B.isinstance (by decide +kernel) (pa_cons (pv 3) (pa_cons (pe_glob (v := .ref C.cAway) (by rfl) T.gAway rfl) pa_nil))) pa_nil)))))))))
theorem cal_law_done {P : Program} {w : World} {K : PySem.W.Frag} {mg : Str → Option Value} {base : Heap} {C : Cs} (D : Def K mg "_law_done" s_law_done) (B : Bl mg) (T : TopH K mg C) (c_House_come : CalM P w K mg base (L2.CX P w) 7 C.cHouse "come" ["self", "guest"] (sp_House_come K C)) (c_House_go : CalM P w K mg base (L2.CX P w) 7 C.cHouse "go" ["self", "guest"] (sp_House_go K C)) :
    Cal P w K mg base CX0 8 "_law_done" ["_law_house_here", "_law_guest_here", "_law_comes"] (sp_law_done K C) := by
  obtain ⟨f, fd, F, hm⟩ := D.ex
  exact ⟨f, fd, ok_law_done F B T c_House_come c_House_go, hm, F.kp, F.binds (ps := ["_law_house_here", "_law_guest_here", "_law_comes"]) fun _ _ _ _ _ _ us hl => match us, hl with | [_, _, _], _ => rfl⟩
abbrev s_law_at : Stmt := topS 34
theorem sc_law_at : FnScope ["_law_seats", "_law_guest_here"] ["_law_seats", "_law_guest_here"] (defScope s_law_at) := ⟨rfl, rfl, rfl, by decide +kernel, rfl, by decide +kernel, by decide +kernel⟩
theorem ok_law_at {P : Program} {w : World} {K : PySem.W.Frag} {mg : Str → Option Value} {base : Heap} {C : Cs} {f : Addr} {fd : FuncData} (F : Fun K "_law_at" "_law_at" s_law_at f fd) (B : Bl mg) (T : TopH K mg C) :
    FnOk P w K mg base CX0 1 f fd ["_law_seats", "_law_guest_here"] (sp_law_at K C) := by
  refine F.ok sc_law_at (fun vs H Q E h => len_law_at h) (fun cdv A outer s H vs Q E hr h => ⟨t_law_at K C E, ?_, pure_law_at T.f T.h h⟩)
  have hu := hu_of hr
  exact (pss_cons (ps_if (pt_cmpR op_in_seq (pv 1) (pv 0) (by rfl)) (pss_one (ps_ret (pe_bm PySem.F.plainAttrs_list PySem.F.slot_list_index PySem.F.type_list_index mt_index (pv 0) (pa_cons (pv 1) pa_nil)))) pss_nil)
      (pss_one (ps_ret pe_non)))
theorem cal_law_at {P : Program} {w : World} {K : PySem.W.Frag} {mg : Str → Option Value} {base : Heap} {C : Cs} (D : Def K mg "_law_at" s_law_at) (B : Bl mg) (T : TopH K mg C) :
    Cal P w K mg base CX0 1 "_law_at" ["_law_seats", "_law_guest_here"] (sp_law_at K C) := by
  obtain ⟨f, fd, F, hm⟩ := D.ex
  exact ⟨f, fd, ok_law_at F B T, hm, F.kp, F.binds (ps := ["_law_seats", "_law_guest_here"]) fun _ _ _ _ _ _ us hl => match us, hl with | [_, _], _ => rfl⟩
abbrev s_law_numbers : Stmt := topS 35
theorem sc_law_numbers : FnScope ["_law_found", "_law_due", "_law_one", "_law_other"] ["_law_found", "_law_due"] (defScope s_law_numbers) := ⟨rfl, rfl, rfl, by decide +kernel, rfl, by decide +kernel, by decide +kernel⟩
theorem ok_law_numbers {P : Program} {w : World} {K : PySem.W.Frag} {mg : Str → Option Value} {base : Heap} {C : Cs} {f : Addr} {fd : FuncData} (F : Fun K "_law_numbers" "_law_numbers" s_law_numbers f fd) (B : Bl mg) (T : TopH K mg C) (c_law_whole : Cal P w K mg base CX0 1 "_law_whole" ["_law_found"] (sp_law_whole K C)) :
    FnOk P w K mg base CX0 2 f fd ["_law_found", "_law_due"] (sp_law_numbers K C) := by
  refine F.ok sc_law_numbers (fun vs H Q E h => len_law_numbers h) (fun cdv A outer s H vs Q E hr h => ⟨t_law_numbers K C E, ?_, pure_law_numbers T.f T.h h⟩)
  have hu := hu_of hr
  exact (pss_cons (ps_if (PW.pt (pw_or (pt_not (pt_val (pe_callB call_isA (by rfl) B.isinstance (by decide +kernel) (pa_cons (pv 0) (pa_cons (pe_bltn (v := .ty "list") (by rfl) B.list (by decide +kernel) rfl) pa_nil))))) (pw_or1 (pt_cmpR op_ne (pe_callB call_len_seq (by rfl) B.len (by decide +kernel) (pa_cons (pv 0) pa_nil)) (pe_callB call_len_seq (by rfl) B.len (by decide +kernel) (pa_cons (pv 1) pa_nil)) (nomark _))))) (pss_one (ps_ret pe_bl)) pss_nil)
      (pss_cons (ps_for PassesOwn.never rfl (pi_zip (by rfl) B.zip (pa_cons (pv 0) (pa_cons (pv 1) pa_nil))) (pg_tup (by rfl) (pgs_cons (pg_name (i := 2) sc_law_numbers.nd rfl (.inl rfl)) (pgs_cons (pg_name (i := 3) sc_law_numbers.nd rfl (.inl rfl)) pgs_nil))) (pss_one (ps_if (PW.pt (pw_or (pt_not (pt_val (pe_fn c_law_whole (hr.mono (by decide)) pass0 (pa_cons (pv 2) pa_nil)))) (pw_or1 (pt_cmpR op_ne (pv 2) (pv 3) (nomark _))))) (pss_one (ps_ret pe_bl)) pss_nil)))
      (pss_one (ps_ret pe_bl))))
theorem cal_law_numbers {P : Program} {w : World} {K : PySem.W.Frag} {mg : Str → Option Value} {base : Heap} {C : Cs} (D : Def K mg "_law_numbers" s_law_numbers) (B : Bl mg) (T : TopH K mg C) (c_law_whole : Cal P w K mg base CX0 1 "_law_whole" ["_law_found"] (sp_law_whole K C)) :
    Cal P w K mg base CX0 2 "_law_numbers" ["_law_found", "_law_due"] (sp_law_numbers K C) := by
  obtain ⟨f, fd, F, hm⟩ := D.ex
  exact ⟨f, fd, ok_law_numbers F B T c_law_whole, hm, F.kp, F.binds (ps := ["_law_found", "_law_due"]) fun _ _ _ _ _ _ us hl => match us, hl with | [_, _], _ => rfl⟩
abbrev s_law_look : Stmt := topS 36
theorem sc_law_look : FnScope ["_law_house_here", "_law_there", "_law_guest_here", "_law_turn", "_law_held", "_law_seats", "_law_k", "_law_way", "_law_found", "_law_at_here"] ["_law_house_here", "_law_there", "_law_guest_here", "_law_turn", "_law_held"] (defScope s_law_look) := ⟨rfl, rfl, rfl, by decide +kernel, rfl, by decide +kernel, by decide +kernel⟩
theorem ok_law_look {P : Program} {w : World} {K : PySem.W.Frag} {mg : Str → Option Value} {base : Heap} {C : Cs} {f : Addr} {fd : FuncData} (F : Fun K "_law_look" "_law_look" s_law_look f fd) (B : Bl mg) (T : TopH K mg C) (c_House_row : CalM P w K mg base CX0 1 C.cHouse "row" ["self"] (sp_House_row K C)) (c_law_room : Cal P w K mg base CX0 1 "_law_room" ["_law_count"] (sp_law_room K C)) (c_law_settled : Cal P w K mg base CX0 2 "_law_settled" ["_law_seats", "_law_many", "_law_guests"] (sp_law_settled K C)) (c_House_many : CalM P w K mg base CX0 1 C.cHouse "many" ["self"] (sp_House_many K C)) (c_law_whole : Cal P w K mg base CX0 1 "_law_whole" ["_law_found"] (sp_law_whole K C)) (c_House_guests : CalM P w K mg base CX0 1 C.cHouse "guests" ["self"] (sp_House_guests K C)) (c_law_numbers : Cal P w K mg base CX0 2 "_law_numbers" ["_law_found", "_law_due"] (sp_law_numbers K C)) (c_House_seat_of : CalM P w K mg base (L2.CX P w) 6 C.cHouse "seat_of" ["self", "guest"] (sp_House_seat_of K C)) (c_law_at : Cal P w K mg base CX0 1 "_law_at" ["_law_seats", "_law_guest_here"] (sp_law_at K C)) :
    FnOk P w K mg base CX0 7 f fd ["_law_house_here", "_law_there", "_law_guest_here", "_law_turn", "_law_held"] (sp_law_look K C) := by
  refine F.ok sc_law_look (fun vs H Q E h => len_law_look h) (fun cdv A outer s H vs Q E hr h => ⟨t_law_look K C E, ?_, pure_law_look T.f T.h h⟩)
  have hu := hu_of hr
  exact (pss_cons (ps_set (i := 5) sc_law_look.nd rfl (.inl rfl) (CalM.use c_House_row fun f fd F hm hb => pe_meth0 (pv 0) T.h.cl hm F (hr.mono (by decide)) hb .nil pass0))
      (pss_cons (ps_if (pt_not (pt_val (pe_fn c_law_settled (hr.mono (by decide)) pass0 (pa_cons (pv 5) (pa_cons (pe_fn c_law_room (hr.mono (by decide)) pass0 (pa_cons (pe_callB call_lenD (by rfl) B.len (by decide +kernel) (pa_cons (pv 1) pa_nil)) pa_nil)) (pa_cons (pe_callTy (call_list_dK rfl) (by rfl) B.list (by decide +kernel) (pa_cons (pv 1) pa_nil)) pa_nil)))))) (pss_one (ps_ret pe_bl)) pss_nil)
      (pss_cons (ps_for PassesOwn.never rfl (pi_range1 (by rfl) B.range (pa_cons pe_int pa_nil)) (pg_name (i := 6) sc_law_look.nd rfl (.inl rfl)) (pss_cons (ps_set (i := 7) sc_law_look.nd rfl (.inl rfl) (pe_op op_mod (pe_op op_add (pv 6) (pv 3)) pe_int))
      (pss_cons (ps_if (PW.pt (pw_and (pt_cmpR op_eq (pv 7) pe_int (nomark _)) (pw_and1 (pt_cmpR (op_neD hr.units) (CalM.use c_House_row fun f fd F hm hb => pe_meth0 (pv 0) T.h.cl hm F (hr.mono (by decide)) hb .nil pass0) (pv 5) (nomark _))))) (pss_one (ps_ret pe_bl)) pss_nil)
      (pss_cons (ps_if (PW.pt (pw_and (pt_cmpR op_eq (pv 7) pe_int (nomark _)) (pw_and1 (PW.pt (pw_or (pt_not (pt_val (pe_fn c_law_whole (hr.mono (by decide)) pass0 (pa_cons (CalM.use c_House_many fun f fd F hm hb => pe_meth0 (pv 0) T.h.cl hm F (hr.mono (by decide)) hb .nil pass0) pa_nil)))) (pw_or1 (pt_cmpR op_ne (CalM.use c_House_many fun f fd F hm hb => pe_meth0 (pv 0) T.h.cl hm F (hr.mono (by decide)) hb .nil pass0) (pe_callB call_lenD (by rfl) B.len (by decide +kernel) (pa_cons (pv 1) pa_nil)) (nomark _)))))))) (pss_one (ps_ret pe_bl)) pss_nil)
      (pss_cons (ps_if (pt_cmpR op_eq (pv 7) pe_int (nomark _)) (pss_cons (ps_set (i := 8) sc_law_look.nd rfl (.inl rfl) (CalM.use c_House_guests fun f fd F hm hb => pe_meth0 (pv 0) T.h.cl hm F (hr.mono (by decide)) hb .nil pass0))
      (pss_cons (ps_if (pt_not (pt_val (pe_fn c_law_numbers (hr.mono (by decide)) pass0 (pa_cons (pv 8) (pa_cons (pe_callB (call_sortedDI rfl) (by rfl) B.sorted (by decide +kernel) (pa_cons (pv 1) pa_nil)) pa_nil))))) (pss_one (ps_ret pe_bl)) pss_nil)
      (pss_one (ps_expr (pe_bm PySem.F.plainAttrs_list PySem.F.slot_list_append PySem.F.type_list_append mt_append (pv 4) (pa_cons (pe_lst (pa_cons (pv 8) (pa_cons (pe_callTy call_list_of (by rfl) B.list (by decide +kernel) (pa_cons (pv 8) pa_nil)) pa_nil))) pa_nil)))))) pss_nil)
      (pss_one (ps_if (pt_cmpR op_eq (pv 7) pe_int (nomark _)) (pss_cons (ps_set (i := 9) sc_law_look.nd rfl (.inl rfl) (CalM.use c_House_seat_of fun f fd F hm hb => pe_meth (pv 0) T.h.cl hm F (hr.mono (by decide)) hb .nil passL (pa_cons (pv 2) pa_nil)))
      (pss_one (ps_if (PW.pt (pw_or (pt_cmpR op_ne (pv 9) (pe_fn c_law_at (hr.mono (by decide)) pass0 (pa_cons (pv 5) (pa_cons (pv 2) pa_nil))) (nomark _)) (pw_or1 (PW.pt (pw_and (pt_cmp (pc_notN (pv 9))) (pw_and1 (pt_not (pt_val (pe_fn c_law_whole (hr.mono (by decide)) pass0 (pa_cons (pv 9) pa_nil)))))))))) (pss_one (ps_ret pe_bl)) pss_nil))) pss_nil)))))))
      (pss_cons (ps_if (pt_cmpR op_eq (pv 3) pe_int (nomark _)) (pss_cons (ps_expr (pe_bm0 PySem.F.plainAttrs_list PySem.F.slot_list_clear PySem.F.type_list_clear mt_clear (pv 5)))
      (pss_one (ps_expr (pe_bm PySem.F.plainAttrs_list PySem.F.slot_list_append PySem.F.type_list_append mt_append (CalM.use c_House_guests fun f fd F hm hb => pe_meth0 (pv 0) T.h.cl hm F (hr.mono (by decide)) hb .nil pass0) (pa_cons (pv 2) pa_nil))))) (pss_one (ps_expr (pe_bm PySem.F.plainAttrs_list PySem.F.slot_list_append PySem.F.type_list_append mt_append (pv 4) (pa_cons (pe_lst (pa_cons (pv 5) (pa_cons (pe_callTy call_list_of (by rfl) B.list (by decide +kernel) (pa_cons (pv 5) pa_nil)) pa_nil))) pa_nil)))))
      (pss_one (ps_ret pe_bl))))))
theorem cal_law_look {P : Program} {w : World} {K : PySem.W.Frag} {mg : Str → Option Value} {base : Heap} {C : Cs} (D : Def K mg "_law_look" s_law_look) (B : Bl mg) (T : TopH K mg C) (c_House_row : CalM P w K mg base CX0 1 C.cHouse "row" ["self"] (sp_House_row K C)) (c_law_room : Cal P w K mg base CX0 1 "_law_room" ["_law_count"] (sp_law_room K C)) (c_law_settled : Cal P w K mg base CX0 2 "_law_settled" ["_law_seats", "_law_many", "_law_guests"] (sp_law_settled K C)) (c_House_many : CalM P w K mg base CX0 1 C.cHouse "many" ["self"] (sp_House_many K C)) (c_law_whole : Cal P w K mg base CX0 1 "_law_whole" ["_law_found"] (sp_law_whole K C)) (c_House_guests : CalM P w K mg base CX0 1 C.cHouse "guests" ["self"] (sp_House_guests K C)) (c_law_numbers : Cal P w K mg base CX0 2 "_law_numbers" ["_law_found", "_law_due"] (sp_law_numbers K C)) (c_House_seat_of : CalM P w K mg base (L2.CX P w) 6 C.cHouse "seat_of" ["self", "guest"] (sp_House_seat_of K C)) (c_law_at : Cal P w K mg base CX0 1 "_law_at" ["_law_seats", "_law_guest_here"] (sp_law_at K C)) :
    Cal P w K mg base CX0 7 "_law_look" ["_law_house_here", "_law_there", "_law_guest_here", "_law_turn", "_law_held"] (sp_law_look K C) := by
  obtain ⟨f, fd, F, hm⟩ := D.ex
  exact ⟨f, fd, ok_law_look F B T c_House_row c_law_room c_law_settled c_House_many c_law_whole c_House_guests c_law_numbers c_House_seat_of c_law_at, hm, F.kp, F.binds (ps := ["_law_house_here", "_law_there", "_law_guest_here", "_law_turn", "_law_held"]) fun _ _ _ _ _ _ us hl => match us, hl with | [_, _, _, _, _], _ => rfl⟩
abbrev s_law_deed : Stmt := topS 37
theorem sc_law_deed : FnScope ["_law_house_here", "_law_there", "_law_most_here", "_law_guest_here", "_law_comes", "_law_seats", "_law_found"] ["_law_house_here", "_law_there", "_law_most_here", "_law_guest_here", "_law_comes"] (defScope s_law_deed) := ⟨rfl, rfl, rfl, by decide +kernel, rfl, by decide +kernel, by decide +kernel⟩
theorem ok_law_deed {P : Program} {w : World} {K : PySem.W.Frag} {mg : Str → Option Value} {base : Heap} {C : Cs} {f : Addr} {fd : FuncData} (F : Fun K "_law_deed" "_law_deed" s_law_deed f fd) (B : Bl mg) (T : TopH K mg C) (c_House_row : CalM P w K mg base CX0 1 C.cHouse "row" ["self"] (sp_House_row K C)) (c_law_done : Cal P w K mg base CX0 8 "_law_done" ["_law_house_here", "_law_guest_here", "_law_comes"] (sp_law_done K C)) (c_law_whole : Cal P w K mg base CX0 1 "_law_whole" ["_law_found"] (sp_law_whole K C)) (c_House_seat_of : CalM P w K mg base (L2.CX P w) 6 C.cHouse "seat_of" ["self", "guest"] (sp_House_seat_of K C)) :
    FnOk P w K mg base CX0 9 f fd ["_law_house_here", "_law_there", "_law_most_here", "_law_guest_here", "_law_comes"] (sp_law_deed K C) := by
  refine F.ok sc_law_deed (fun vs H Q E h => len_law_deed h) (fun cdv A outer s H vs Q E hr h => ⟨t_law_deed K C E, ?_, pure_law_deed T.f T.h h⟩)
  have hu := hu_of hr
  exact (pss_cons (ps_set (i := 5) sc_law_deed.nd rfl (.inl rfl) (CalM.use c_House_row fun f fd F hm hb => pe_meth0 (pv 0) T.h.cl hm F (hr.mono (by decide)) hb .nil pass0))
      (pss_cons (ps_set (i := 6) sc_law_deed.nd rfl (.inl rfl) (pe_fn c_law_done (hr.mono (by decide)) pass0 (pa_cons (pv 0) (pa_cons (pv 3) (pa_cons (pv 4) pa_nil)))))
      (pss_cons (ps_if (PW.pt (pw_and (pt_val (pv 4)) (pw_and1 (pt_cmp (pc_din hu (pv 3) (pv 1)))))) (pss_one (ps_ret (pe_and (pe_cmpR (op_eqD hr.units) (pv 6) (pe_lst (pa_cons pe_bl (pa_cons pe_bl (pa_cons pe_bl pa_nil)))) (nomark _)) (pe_one (pe_cmpR (op_eqD hr.units) (CalM.use c_House_row fun f fd F hm hb => pe_meth0 (pv 0) T.h.cl hm F (hr.mono (by decide)) hb .nil pass0) (pv 5) (nomark _)))))) pss_nil)
      (pss_cons (ps_if (PW.pt (pw_and (pt_val (pv 4)) (pw_and1 (pt_cmpR op_ge (pe_callB call_lenD (by rfl) B.len (by decide +kernel) (pa_cons (pv 1) pa_nil)) (pv 2) (nomark _))))) (pss_one (ps_ret (pe_and (pe_cmpR (op_eqD hr.units) (pv 6) (pe_lst (pa_cons pe_bl (pa_cons pe_bl (pa_cons pe_bl pa_nil)))) (nomark _)) (pe_one (pe_cmpR (op_eqD hr.units) (CalM.use c_House_row fun f fd F hm hb => pe_meth0 (pv 0) T.h.cl hm F (hr.mono (by decide)) hb .nil pass0) (pv 5) (nomark _)))))) pss_nil)
      (pss_cons (ps_if (PW.pt (pw_and (pt_not (pt_val (pv 4))) (pw_and1 (pt_cmp (pc_dnotin hu (pv 3) (pv 1)))))) (pss_one (ps_ret (pe_and (pe_cmpR (op_eqD hr.units) (pv 6) (pe_lst (pa_cons pe_bl (pa_cons pe_bl (pa_cons pe_bl pa_nil)))) (nomark _)) (pe_one (pe_cmpR (op_eqD hr.units) (CalM.use c_House_row fun f fd F hm hb => pe_meth0 (pv 0) T.h.cl hm F (hr.mono (by decide)) hb .nil pass0) (pv 5) (nomark _)))))) pss_nil)
      (pss_cons (ps_if (pt_not (pt_val (pe_fn c_law_whole (hr.mono (by decide)) pass0 (pa_cons (pv 6) pa_nil)))) (pss_one (ps_ret pe_bl)) pss_nil)
      (pss_cons (ps_if (pt_val (pv 4)) (pss_cons (ps_dput hu (pv 1) (pv 3) pe_bl rfl)
      (pss_cons (ps_set (i := 5) sc_law_deed.nd rfl (.inl rfl) (CalM.use c_House_row fun f fd F hm hb => pe_meth0 (pv 0) T.h.cl hm F (hr.mono (by decide)) hb .nil pass0))
      (pss_one (ps_ret (pe_and (pe_chain op_le op_lt pe_int (pv 6) (pe_callB call_len_seq (by rfl) B.len (by decide +kernel) (pa_cons (pv 5) pa_nil))) (pe_one (pe_cmpR op_eq (pe_ix ix_list (pv 5) (pv 6) (fun _ _ => rfl)) (pv 3) (nomark _)))))))) pss_nil)
      (pss_cons (ps_expr (pe_dpop1 (pv 1) (pv 3) ⟨by rfl, by rfl, by rfl, by rfl⟩))
      (pss_one (ps_ret (pe_and (pe_cmpR op_eq (pv 6) (pe_bm PySem.F.plainAttrs_list PySem.F.slot_list_index PySem.F.type_list_index mt_index (pv 5) (pa_cons (pv 3) pa_nil)) (nomark _)) (pe_one (pe_cmp (pc_isN (CalM.use c_House_seat_of fun f fd F hm hb => pe_meth (pv 0) T.h.cl hm F (hr.mono (by decide)) hb .nil passL (pa_cons (pv 3) pa_nil))))))))))))))))
theorem cal_law_deed {P : Program} {w : World} {K : PySem.W.Frag} {mg : Str → Option Value} {base : Heap} {C : Cs} (D : Def K mg "_law_deed" s_law_deed) (B : Bl mg) (T : TopH K mg C) (c_House_row : CalM P w K mg base CX0 1 C.cHouse "row" ["self"] (sp_House_row K C)) (c_law_done : Cal P w K mg base CX0 8 "_law_done" ["_law_house_here", "_law_guest_here", "_law_comes"] (sp_law_done K C)) (c_law_whole : Cal P w K mg base CX0 1 "_law_whole" ["_law_found"] (sp_law_whole K C)) (c_House_seat_of : CalM P w K mg base (L2.CX P w) 6 C.cHouse "seat_of" ["self", "guest"] (sp_House_seat_of K C)) :
    Cal P w K mg base CX0 9 "_law_deed" ["_law_house_here", "_law_there", "_law_most_here", "_law_guest_here", "_law_comes"] (sp_law_deed K C) := by
  obtain ⟨f, fd, F, hm⟩ := D.ex
  exact ⟨f, fd, ok_law_deed F B T c_House_row c_law_done c_law_whole c_House_seat_of, hm, F.kp, F.binds (ps := ["_law_house_here", "_law_there", "_law_most_here", "_law_guest_here", "_law_comes"]) fun _ _ _ _ _ _ us hl => match us, hl with | [_, _, _, _, _], _ => rfl⟩
abbrev s_law : Stmt := topS 38
theorem sc_law : FnScope ["_law_script", "_law_base_here", "_law_sizes", "_law_houses", "_law_there", "_law_held", "_law_k", "_law_cell", "_law_at_here", "_law_way", "_law_guest_here", "_law_some", "_law_most_here", "_law_turn", "_law_found", "_law_kept"] ["_law_script"] (defScope s_law) := ⟨rfl, rfl, rfl, by decide +kernel, rfl, by decide +kernel, by decide +kernel⟩
theorem ok_law {P : Program} {w : World} {K : PySem.W.Frag} {mg : Str → Option Value} {base : Heap} {C : Cs} {f : Addr} {fd : FuncData} (F : Fun K "law" "law" s_law f fd) (B : Bl mg) (T : TopH K mg C) (c_law_cell_at : Cal P w K mg base CX0 1 "_law_cell_at" ["_law_script", "_law_k"] (sp_law_cell_at K C)) (c_law_base : Cal P w K mg base CX0 1 "_law_base" ["_law_cell"] (sp_law_base K C)) (c_law_house : Cal P w K mg base CX0 4 "_law_house" ["_law_cell"] (sp_law_house K C)) (c_law_guest : Cal P w K mg base CX0 1 "_law_guest" ["_law_cell", "_law_base_here"] (sp_law_guest K C)) (c_law_most : Cal P w K mg base CX0 1 "_law_most" ["_law_cell"] (sp_law_most K C)) (c_law_deed : Cal P w K mg base CX0 9 "_law_deed" ["_law_house_here", "_law_there", "_law_most_here", "_law_guest_here", "_law_comes"] (sp_law_deed K C)) (c_law_look : Cal P w K mg base CX0 7 "_law_look" ["_law_house_here", "_law_there", "_law_guest_here", "_law_turn", "_law_held"] (sp_law_look K C)) :
    FnOk P w K mg base CX0 10 f fd ["_law_script"] (sp_law K C) := by
  refine F.ok sc_law (fun vs H Q E h => len_law h) (fun cdv A outer s H vs Q E hr h => ⟨t_law K C E, ?_, pure_law T.f T.h h⟩)
  have hu := hu_of hr
  exact (pss_cons (ps_set (i := 1) sc_law.nd rfl (.inl rfl) (pe_fn c_law_base (hr.mono (by decide)) pass0 (pa_cons (pe_fn c_law_cell_at (hr.mono (by decide)) pass0 (pa_cons (pv 0) (pa_cons pe_int pa_nil))) pa_nil)))
      (pss_cons (ps_set (i := 2) sc_law.nd rfl (.inl rfl) (pe_lst (pa_cons (pe_fn c_law_cell_at (hr.mono (by decide)) pass0 (pa_cons (pv 0) (pa_cons pe_int pa_nil))) (pa_cons (pe_fn c_law_cell_at (hr.mono (by decide)) pass0 (pa_cons (pv 0) (pa_cons pe_int pa_nil))) pa_nil))))
      (pss_cons (ps_set (i := 3) sc_law.nd rfl (.inl rfl) (pe_lst (pa_cons (pe_fn c_law_house (hr.mono (by decide)) pass0 (pa_cons (pe_ix ix_list (pv 2) pe_int (fun _ _ => rfl)) pa_nil)) (pa_cons (pe_fn c_law_house (hr.mono (by decide)) pass0 (pa_cons (pe_ix ix_list (pv 2) pe_int (fun _ _ => rfl)) pa_nil)) pa_nil))))
      (pss_cons (ps_set (i := 4) sc_law.nd rfl (.inl rfl) (pe_lst (pa_cons pe_dnewK (pa_cons pe_dnewK pa_nil))))
      (pss_cons (ps_set (i := 5) sc_law.nd rfl (.inl rfl) (pe_lst pa_nil))
      (pss_cons (ps_for PassesOwn.never rfl (pi_enum (by rfl) B.enumerate (pa_cons (pe_slice sl_list (pv 0) (po_some pe_int) (po_some pe_int)) pa_nil)) (pg_tup (by rfl) (pgs_cons (pg_name (i := 6) sc_law.nd rfl (.inl rfl)) (pgs_cons (pg_name (i := 7) sc_law.nd rfl (.inl rfl)) pgs_nil))) (pss_cons (ps_set (i := 8) sc_law.nd rfl (.inl rfl) (pe_op op_fdiv (pe_op op_mod (pe_op op_mod (pe_op op_mulL (pe_op op_mod (pv 7) (pe_pow (m := 10) (n := 12) (N := 1000000000000) rfl rfl (by decide +kernel) (by decide) (by decide))) pe_int) pe_int) pe_int) pe_int))
      (pss_cons (ps_set (i := 9) sc_law.nd rfl (.inl rfl) (pe_op op_mod (pe_op op_mulL (pe_op op_mod (pv 7) (pe_pow (m := 10) (n := 12) (N := 1000000000000) rfl rfl (by decide +kernel) (by decide) (by decide))) pe_int) pe_int))
      (pss_cons (ps_set (i := 10) sc_law.nd rfl (.inl rfl) (pe_fn c_law_guest (hr.mono (by decide)) pass0 (pa_cons (pv 7) (pa_cons (pv 1) pa_nil))))
      (pss_cons (ps_set (i := 11) sc_law.nd rfl (.inl rfl) (pe_callB (call_sortedDI rfl) (by rfl) B.sorted (by decide +kernel) (pa_cons (pe_ix ix_list (pv 4) (pv 8) (fun _ _ => rfl)) pa_nil)))
      (pss_cons (ps_if (PW.pt (pw_and (pt_cmpR op_lt (pe_op op_mod (pv 9) pe_int) pe_int (nomark _)) (pw_and1 (pt_cmpR op_gt (pe_callB call_len_seq (by rfl) B.len (by decide +kernel) (pa_cons (pv 11) pa_nil)) pe_int (nomark _))))) (pss_one (ps_set (i := 10) sc_law.nd rfl (.inl rfl) (pe_ix ix_list (pv 11) (pe_op op_mod (pe_op op_fdiv (pv 9) pe_int) (pe_callB call_len_seq (by rfl) B.len (by decide +kernel) (pa_cons (pv 11) pa_nil))) (fun _ _ => rfl)))) pss_nil)
      (pss_cons (ps_set (i := 12) sc_law.nd rfl (.inl rfl) (pe_fn c_law_most (hr.mono (by decide)) pass0 (pa_cons (pe_ix ix_list (pv 2) (pv 8) (fun _ _ => rfl)) pa_nil)))
      (pss_cons (ps_if (pt_not (pt_val (pe_fn c_law_deed (hr.mono (by decide)) pass0 (pa_cons (pe_ix ix_list (pv 3) (pv 8) (fun _ _ => rfl)) (pa_cons (pe_ix ix_list (pv 4) (pv 8) (fun _ _ => rfl)) (pa_cons (pv 12) (pa_cons (pv 10) (pa_cons (pe_cmpR op_gt (pe_op op_mod (pv 9) pe_int) pe_int (nomark _)) pa_nil)))))))) (pss_one (ps_ret pe_bl)) pss_nil)
      (pss_cons (ps_set (i := 13) sc_law.nd rfl (.inl rfl) (pe_op op_mod (pe_op op_add (pe_op op_fdiv (pv 9) pe_int) (pv 6)) pe_int))
      (pss_one (ps_if (pt_cmpR op_eq (pe_op op_mod (pe_op op_fdiv (pv 9) pe_int) pe_int) pe_int (nomark _)) (pss_one (ps_if (pt_not (pt_val (pe_fn c_law_look (hr.mono (by decide)) pass0 (pa_cons (pe_ix ix_list (pv 3) (pv 8) (fun _ _ => rfl)) (pa_cons (pe_ix ix_list (pv 4) (pv 8) (fun _ _ => rfl)) (pa_cons (pv 10) (pa_cons (pv 13) (pa_cons (pv 5) pa_nil)))))))) (pss_one (ps_ret pe_bl)) pss_nil)) pss_nil)))))))))))
      (pss_cons (ps_for PassesOwn.never rfl (pi_range1 (by rfl) B.range (pa_cons pe_int pa_nil)) (pg_name (i := 8) sc_law.nd rfl (.inl rfl)) (pss_one (ps_if (pt_not (pt_val (pe_fn c_law_look (hr.mono (by decide)) pass0 (pa_cons (pe_ix ix_list (pv 3) (pv 8) (fun _ _ => rfl)) (pa_cons (pe_ix ix_list (pv 4) (pv 8) (fun _ _ => rfl)) (pa_cons (pv 1) (pa_cons (pe_op op_add (pv 8) pe_int) (pa_cons (pv 5) pa_nil)))))))) (pss_one (ps_ret pe_bl)) pss_nil)))
      (pss_cons (ps_for PassesOwn.never rfl (pi_list (pv 5)) (pg_lst rfl (pgs_cons (pg_name (i := 14) sc_law.nd rfl (.inl rfl)) (pgs_cons (pg_name (i := 15) sc_law.nd rfl (.inl rfl)) pgs_nil))) (pss_one (ps_if (pt_cmpR (op_neD hr.units) (pv 14) (pv 15) (nomark _)) (pss_one (ps_ret pe_bl)) pss_nil)))
      (pss_one (ps_ret pe_bl))))))))))
end RS
namespace RS
open PySem PySem.Spec PyProof.Rows L2
theorem all_mk {l : PySem.W.OpenLaw} {w : World} {K : PySem.W.Frag} {h : Heap} {mg : Str → Option Value} {fa : Addr} (X : K.In h) (G : h.Ns mainGlobals mg) (hfa : mg "law" = some (.ref fa)) (C : Cs) (T : TopH K mg C)
    (d_is_guest : Def K mg "is_guest" s_is_guest)
    (d_home : Def K mg "home" s_home)
    (d_carried : Def K mg "carried" s_carried)
    (d_ahead : Def K mg "ahead" s_ahead)
    (d_room : Def K mg "room" s_room)
    (d_look_for : Def K mg "look_for" s_look_for)
    (d_place_of : Def K mg "place_of" s_place_of)
    (d_take_seat : Def K mg "take_seat" s_take_seat)
    (d_leave_seat : Def K mg "leave_seat" s_leave_seat)
    (d_looked_through : Def K mg "looked_through" s_looked_through)
    (d_seated : Def K mg "seated" s_seated)
    (d_House_init : DefI K C.cHouse s_House_init)
    (d_House_come : DefM K C.cHouse "come" "House.come" s_House_come)
    (d_House_go : DefM K C.cHouse "go" "House.go" s_House_go)
    (d_House_seat_of : DefM K C.cHouse "seat_of" "House.seat_of" s_House_seat_of)
    (d_House_row : DefM K C.cHouse "row" "House.row" s_House_row)
    (d_House_guests : DefM K C.cHouse "guests" "House.guests" s_House_guests)
    (d_House_many : DefM K C.cHouse "many" "House.many" s_House_many)
    (d_law_cell_at : Def K mg "_law_cell_at" s_law_cell_at)
    (d_law_whole : Def K mg "_law_whole" s_law_whole)
    (d_law_home : Def K mg "_law_home" s_law_home)
    (d_law_base : Def K mg "_law_base" s_law_base)
    (d_law_guest : Def K mg "_law_guest" s_law_guest)
    (d_law_room : Def K mg "_law_room" s_law_room)
    (d_law_settled : Def K mg "_law_settled" s_law_settled)
    (d_law_most : Def K mg "_law_most" s_law_most)
    (d_law_house : Def K mg "_law_house" s_law_house)
    (d_law_done : Def K mg "_law_done" s_law_done)
    (d_law_at : Def K mg "_law_at" s_law_at)
    (d_law_numbers : Def K mg "_law_numbers" s_law_numbers)
    (d_law_look : Def K mg "_law_look" s_law_look)
    (d_law_deed : Def K mg "_law_deed" s_law_deed)
    (d_law : Def K mg "law" s_law)
    (z_bool : PySem.W.nsIn K mainGlobals "bool" = some none) (z_enumerate : PySem.W.nsIn K mainGlobals "enumerate" = some none) (z_int : PySem.W.nsIn K mainGlobals "int" = some none) (z_isinstance : PySem.W.nsIn K mainGlobals "isinstance" = some none) (z_len : PySem.W.nsIn K mainGlobals "len" = some none) (z_list : PySem.W.nsIn K mainGlobals "list" = some none) (z_range : PySem.W.nsIn K mainGlobals "range" = some none) (z_set : PySem.W.nsIn K mainGlobals "set" = some none) (z_sorted : PySem.W.nsIn K mainGlobals "sorted" = some none) (z_zip : PySem.W.nsIn K mainGlobals "zip" = some none) :
    ∃ fd : FuncData, (∀ (s : Shared) (v : Value), BindsTo s fd ⟨[v], []⟩ [("_law_script", v)]) ∧ ∀ base : Heap, K.In base → base.Ns mainGlobals mg → FnOk l.prog w K mg base CX0 10 fa fd ["_law_script"] (sp_law K C) := by
  have B : Bl mg := ⟨PySem.W.mg_none_of X G z_bool, PySem.W.mg_none_of X G z_enumerate, PySem.W.mg_none_of X G z_int, PySem.W.mg_none_of X G z_isinstance, PySem.W.mg_none_of X G z_len, PySem.W.mg_none_of X G z_list, PySem.W.mg_none_of X G z_range, PySem.W.mg_none_of X G z_set, PySem.W.mg_none_of X G z_sorted, PySem.W.mg_none_of X G z_zip⟩
  obtain ⟨f, fd, F, hm⟩ := d_law.ex
  have e := hfa.symm.trans hm
  cases e
  refine ⟨fd, fun s v => ?_, fun base _ _ => ?_⟩
  · obtain ⟨oc, od, kV, doc, pm, an, cdv, ct, osl, rfl, lk, hcd⟩ := F.ex
    exact .of_eq rfl
  · have c_is_guest := cal_is_guest (P := l.prog) (w := w) (base := base) (C := C) d_is_guest B T 
    have c_home := cal_home (P := l.prog) (w := w) (base := base) (C := C) d_home B T 
    have c_room := cal_room (P := l.prog) (w := w) (base := base) (C := C) d_room B T 
    have c_House_row := cal_House_row (P := l.prog) (w := w) (base := base) (C := C) d_House_row B T 
    have c_House_guests := cal_House_guests (P := l.prog) (w := w) (base := base) (C := C) d_House_guests B T 
    have c_House_many := cal_House_many (P := l.prog) (w := w) (base := base) (C := C) d_House_many B T 
    have c_law_cell_at := cal_law_cell_at (P := l.prog) (w := w) (base := base) (C := C) d_law_cell_at B T 
    have c_law_whole := cal_law_whole (P := l.prog) (w := w) (base := base) (C := C) d_law_whole B T 
    have c_law_home := cal_law_home (P := l.prog) (w := w) (base := base) (C := C) d_law_home B T 
    have c_law_base := cal_law_base (P := l.prog) (w := w) (base := base) (C := C) d_law_base B T 
    have c_law_guest := cal_law_guest (P := l.prog) (w := w) (base := base) (C := C) d_law_guest B T 
    have c_law_room := cal_law_room (P := l.prog) (w := w) (base := base) (C := C) d_law_room B T 
    have c_law_most := cal_law_most (P := l.prog) (w := w) (base := base) (C := C) d_law_most B T 
    have c_law_at := cal_law_at (P := l.prog) (w := w) (base := base) (C := C) d_law_at B T 
    have c_carried := cal_carried (P := l.prog) (w := w) (base := base) (C := C) d_carried B T c_home
    have c_looked_through := cal_looked_through (P := l.prog) (w := w) (base := base) (C := C) d_looked_through B T c_is_guest
    have c_House_init := cal_House_init (P := l.prog) (w := w) (base := base) (C := C) d_House_init B T c_room
    have c_law_settled := cal_law_settled (P := l.prog) (w := w) (base := base) (C := C) d_law_settled B T c_law_whole c_law_home
    have c_law_numbers := cal_law_numbers (P := l.prog) (w := w) (base := base) (C := C) d_law_numbers B T c_law_whole
    have c_ahead := cal_ahead (P := l.prog) (w := w) (base := base) (C := C) d_ahead B T c_carried
    have c_leave_seat := cal_leave_seat (P := l.prog) (w := w) (base := base) (C := C) d_leave_seat B T c_carried
    have c_look_for := cal_look_for (P := l.prog) (w := w) (base := base) (C := C) d_look_for B T c_is_guest c_home c_ahead
    have c_law_house := cal_law_house (P := l.prog) (w := w) (base := base) (C := C) d_law_house B T c_House_init c_law_most
    have c_place_of := cal_place_of (P := l.prog) (w := w) (base := base) (C := C) d_place_of B T c_look_for
    have c_take_seat := cal_take_seat (P := l.prog) (w := w) (base := base) (C := C) d_take_seat B T c_look_for
    have c_seated := cal_seated (P := l.prog) (w := w) (base := base) (C := C) d_seated B T c_looked_through c_take_seat
    have c_House_seat_of := cal_House_seat_of (P := l.prog) (w := w) (base := base) (C := C) d_House_seat_of B T c_place_of
    have c_House_come := cal_House_come (P := l.prog) (w := w) (base := base) (C := C) d_House_come B T c_place_of c_House_many c_room c_House_guests c_seated c_take_seat
    have c_House_go := cal_House_go (P := l.prog) (w := w) (base := base) (C := C) d_House_go B T c_place_of c_leave_seat c_House_many c_room c_House_guests c_seated
    have c_law_look := cal_law_look (P := l.prog) (w := w) (base := base) (C := C) d_law_look B T c_House_row c_law_room c_law_settled c_House_many c_law_whole c_House_guests c_law_numbers c_House_seat_of c_law_at
    have c_law_done := cal_law_done (P := l.prog) (w := w) (base := base) (C := C) d_law_done B T c_House_come c_House_go
    have c_law_deed := cal_law_deed (P := l.prog) (w := w) (base := base) (C := C) d_law_deed B T c_House_row c_law_done c_law_whole c_House_seat_of
    exact ok_law F B T c_law_cell_at c_law_base c_law_house c_law_guest c_law_most c_law_deed c_law_look
theorem fin {l : PySem.W.OpenLaw} {q : Program} {loose : List Str} {XP : (Str → Option Value) → Heap → Prop} {YP : World → Heap → Prop} {d : DefRec} {K : Params → PySem.W.Frag} (hn : l.most = some 63) (hdf : d.params.defaults = [])
    (hY : ∀ (w : World) (h : Heap), YP w h → (K w.params).In h)
    (F : ∀ (w : World) (mg : Str → Option Value) (fa : Addr) (h : Heap), (K w.params).In h → h.Ns mainGlobals mg → mg d.name = some (.ref fa) → ∃ C : Cs,
      ∃ fd : FuncData, (∀ (s : Shared) (u : Value), BindsTo s fd ⟨[u], []⟩ [("_law_script", u)]) ∧ ∀ base : Heap, (K w.params).In base → base.Ns mainGlobals mg → FnOk l.prog w (K w.params) mg base CX0 10 fa fd ["_law_script"] (sp_law (K w.params) C)) :
    PySem.W.WalkO q loose XP YP l.row.toRowW d [] (fun f vs => PySem.call f vs) :=
  L2.walk_of (n := 63) (k := 10) (x := "_law_script") (CX := fun _ => CX0) (sp := fun w => sp_law0 (K w.params)) hn (by decide) hdf ⟨rfl, by decide, by decide⟩ hY
    (fun w mg fa h a b c => by
      obtain ⟨C, fd, h1, h2⟩ := F w mg fa h a b c
      exact ⟨fd, h1, h2⟩)
    (fun _ _ a ns hl _ hS => ⟨a, ns, rfl, hS, hl, fun _ => rfl⟩) fun _ _ _ _ _ z => z
end RS
open PySem PySem.W PyProof.Rows
set_option maxRecDepth 100000 in
set_option maxHeartbeats 0 in
theorem PySem.Challenge.cw_ringseat_k11_whole_house_holds : PySem.Challenge.rw_ringseat_k11_whole_house.Holds := by
  w_on; o_law; k_head; (case hw => w_witness2)
  k_fill
  refine RS.fin (l := PySem.Challenge.rw_ringseat_k11_whole_house) rfl rfl (fun w h Y => PySem.W.kIn_of Y) ?F
  case F =>
    intro w mg fa h KX G hmg
    refine' ⟨_, RS.all_mk KX G hmg _ (RS.topH_mk KX G (RS.top_mk  KX G ?nR ?n1 ?n2 ?n3 ?n4 ?n5 ⟨?F1q, ?F1k, ?F1b, ?F1t, ?F1g, ?F1n, ?F1d, ?F1c, ?F1m, ?F1v, ?F1r, ?F1s⟩ ⟨?F2q, ?F2k, ?F2b, ?F2t, ?F2g, ?F2n, ?F2d, ?F2c, ?F2m, ?F2v, ?F2r, ?F2s⟩ ⟨?F3q, ?F3k, ?F3b, ?F3t, ?F3g, ?F3n, ?F3d, ?F3c, ?F3m, ?F3v, ?F3r, ?F3s⟩ ⟨?F4q, ?F4k, ?F4b, ?F4t, ?F4g, ?F4n, ?F4d, ?F4c, ?F4m, ?F4v, ?F4r, ?F4s⟩ ⟨?F5q, ?F5k, ?F5b, ?F5t, ?F5g, ?F5n, ?F5d, ?F5c, ?F5m, ?F5v, ?F5r, ?F5s⟩ ?Rb ?Rd ?Rt ?hn ?ht ?s12 ?s13 ?s14 ?s15 ?s21 ?s23 ?s24 ?s25 ?s31 ?s32 ?s34 ?s35 ?s41 ?s42 ?s43 ?s45 ?s51 ?s52 ?s53 ?s54) ?nH ?pg ?hd ?po ?sa ?nm ?ns) (RS.def_mk KX G ?a_is_guest ?l_is_guest ?c_is_guest ?k_is_guest) (RS.def_mk KX G ?a_home ?l_home ?c_home ?k_home) (RS.def_mk KX G ?a_carried ?l_carried ?c_carried ?k_carried) (RS.def_mk KX G ?a_ahead ?l_ahead ?c_ahead ?k_ahead) (RS.def_mk KX G ?a_room ?l_room ?c_room ?k_room) (RS.def_mk KX G ?a_look_for ?l_look_for ?c_look_for ?k_look_for) (RS.def_mk KX G ?a_place_of ?l_place_of ?c_place_of ?k_place_of) (RS.def_mk KX G ?a_take_seat ?l_take_seat ?c_take_seat ?k_take_seat) (RS.def_mk KX G ?a_leave_seat ?l_leave_seat ?c_leave_seat ?k_leave_seat) (RS.def_mk KX G ?a_looked_through ?l_looked_through ?c_looked_through ?k_looked_through) (RS.def_mk KX G ?a_seated ?l_seated ?c_seated ?k_seated) (RS.def_mkI ?a_House_init ?i_House_init ?l_House_init ?c_House_init ?k_House_init ?t_House_init ?m_House_init ?h_House_init) (RS.def_mkM ?a_House_come ?i_House_come ?l_House_come ?c_House_come ?k_House_come) (RS.def_mkM ?a_House_go ?i_House_go ?l_House_go ?c_House_go ?k_House_go) (RS.def_mkM ?a_House_seat_of ?i_House_seat_of ?l_House_seat_of ?c_House_seat_of ?k_House_seat_of) (RS.def_mkM ?a_House_row ?i_House_row ?l_House_row ?c_House_row ?k_House_row) (RS.def_mkM ?a_House_guests ?i_House_guests ?l_House_guests ?c_House_guests ?k_House_guests) (RS.def_mkM ?a_House_many ?i_House_many ?l_House_many ?c_House_many ?k_House_many) (RS.def_mk KX G ?a_law_cell_at ?l_law_cell_at ?c_law_cell_at ?k_law_cell_at) (RS.def_mk KX G ?a_law_whole ?l_law_whole ?c_law_whole ?k_law_whole) (RS.def_mk KX G ?a_law_home ?l_law_home ?c_law_home ?k_law_home) (RS.def_mk KX G ?a_law_base ?l_law_base ?c_law_base ?k_law_base) (RS.def_mk KX G ?a_law_guest ?l_law_guest ?c_law_guest ?k_law_guest) (RS.def_mk KX G ?a_law_room ?l_law_room ?c_law_room ?k_law_room) (RS.def_mk KX G ?a_law_settled ?l_law_settled ?c_law_settled ?k_law_settled) (RS.def_mk KX G ?a_law_most ?l_law_most ?c_law_most ?k_law_most) (RS.def_mk KX G ?a_law_house ?l_law_house ?c_law_house ?k_law_house) (RS.def_mk KX G ?a_law_done ?l_law_done ?c_law_done ?k_law_done) (RS.def_mk KX G ?a_law_at ?l_law_at ?c_law_at ?k_law_at) (RS.def_mk KX G ?a_law_numbers ?l_law_numbers ?c_law_numbers ?k_law_numbers) (RS.def_mk KX G ?a_law_look ?l_law_look ?c_law_look ?k_law_look) (RS.def_mk KX G ?a_law_deed ?l_law_deed ?c_law_deed ?k_law_deed) (RS.def_mk KX G ?a_law ?l_law ?c_law ?k_law) ?z_bool ?z_enumerate ?z_int ?z_isinstance ?z_len ?z_list ?z_range ?z_set ?z_sorted ?z_zip⟩
    (case nR => k_is); (case n1 => k_is); (case n2 => k_is); (case n3 => k_is); (case n4 => k_is); (case n5 => k_is); (case Rb => k_is); (case Rd => k_is); (case Rt => k_is); (case hn => k_is); (case ht => k_is); (case nH => k_is); (case pg => k_is); (case hd => k_is); (case po => k_is); (case sa => k_is); (case nm => k_is); (case ns => k_is)
    (case F1q => k_exc); (case F1k => k_is); (case F1b => k_is); (case F1t => k_is); (case F1g => k_is); (case F1n => k_is); (case F1d => k_is); (case F1c => k_is); (case F1m => k_is); (case F1v => k_is); (case F1r => k_is); (case F1s => k_is)
    (case F2q => k_exc); (case F2k => k_is); (case F2b => k_is); (case F2t => k_is); (case F2g => k_is); (case F2n => k_is); (case F2d => k_is); (case F2c => k_is); (case F2m => k_is); (case F2v => k_is); (case F2r => k_is); (case F2s => k_is)
    (case F3q => k_exc); (case F3k => k_is); (case F3b => k_is); (case F3t => k_is); (case F3g => k_is); (case F3n => k_is); (case F3d => k_is); (case F3c => k_is); (case F3m => k_is); (case F3v => k_is); (case F3r => k_is); (case F3s => k_is)
    (case F4q => k_exc); (case F4k => k_is); (case F4b => k_is); (case F4t => k_is); (case F4g => k_is); (case F4n => k_is); (case F4d => k_is); (case F4c => k_is); (case F4m => k_is); (case F4v => k_is); (case F4r => k_is); (case F4s => k_is)
    (case F5q => k_exc); (case F5k => k_is); (case F5b => k_is); (case F5t => k_is); (case F5g => k_is); (case F5n => k_is); (case F5d => k_is); (case F5c => k_is); (case F5m => k_is); (case F5v => k_is); (case F5r => k_is); (case F5s => k_is)
    (case s12 => k_is); (case s13 => k_is); (case s14 => k_is); (case s15 => k_is); (case s21 => k_is); (case s23 => k_is); (case s24 => k_is); (case s25 => k_is); (case s31 => k_is); (case s32 => k_is); (case s34 => k_is); (case s35 => k_is); (case s41 => k_is); (case s42 => k_is); (case s43 => k_is); (case s45 => k_is); (case s51 => k_is); (case s52 => k_is); (case s53 => k_is); (case s54 => k_is)
    (case a_is_guest => k_is); (case l_is_guest => k_is); (case c_is_guest => k_is); (case k_is_guest => k_is)
    (case a_home => k_is); (case l_home => k_is); (case c_home => k_is); (case k_home => k_is)
    (case a_carried => k_is); (case l_carried => k_is); (case c_carried => k_is); (case k_carried => k_is)
    (case a_ahead => k_is); (case l_ahead => k_is); (case c_ahead => k_is); (case k_ahead => k_is)
    (case a_room => k_is); (case l_room => k_is); (case c_room => k_is); (case k_room => k_is)
    (case a_look_for => k_is); (case l_look_for => k_is); (case c_look_for => k_is); (case k_look_for => k_is)
    (case a_place_of => k_is); (case l_place_of => k_is); (case c_place_of => k_is); (case k_place_of => k_is)
    (case a_take_seat => k_is); (case l_take_seat => k_is); (case c_take_seat => k_is); (case k_take_seat => k_is)
    (case a_leave_seat => k_is); (case l_leave_seat => k_is); (case c_leave_seat => k_is); (case k_leave_seat => k_is)
    (case a_looked_through => k_is); (case l_looked_through => k_is); (case c_looked_through => k_is); (case k_looked_through => k_is)
    (case a_seated => k_is); (case l_seated => k_is); (case c_seated => k_is); (case k_seated => k_is)
    (case a_House_init => k_is); (case i_House_init => k_is); (case l_House_init => k_is); (case c_House_init => k_is); (case k_House_init => k_is); (case t_House_init => k_is); (case m_House_init => k_is); (case h_House_init => k_is)
    (case a_House_come => k_is); (case i_House_come => k_is); (case l_House_come => k_is); (case c_House_come => k_is); (case k_House_come => k_is)
    (case a_House_go => k_is); (case i_House_go => k_is); (case l_House_go => k_is); (case c_House_go => k_is); (case k_House_go => k_is)
    (case a_House_seat_of => k_is); (case i_House_seat_of => k_is); (case l_House_seat_of => k_is); (case c_House_seat_of => k_is); (case k_House_seat_of => k_is)
    (case a_House_row => k_is); (case i_House_row => k_is); (case l_House_row => k_is); (case c_House_row => k_is); (case k_House_row => k_is)
    (case a_House_guests => k_is); (case i_House_guests => k_is); (case l_House_guests => k_is); (case c_House_guests => k_is); (case k_House_guests => k_is)
    (case a_House_many => k_is); (case i_House_many => k_is); (case l_House_many => k_is); (case c_House_many => k_is); (case k_House_many => k_is)
    (case a_law_cell_at => k_is); (case l_law_cell_at => k_is); (case c_law_cell_at => k_is); (case k_law_cell_at => k_is)
    (case a_law_whole => k_is); (case l_law_whole => k_is); (case c_law_whole => k_is); (case k_law_whole => k_is)
    (case a_law_home => k_is); (case l_law_home => k_is); (case c_law_home => k_is); (case k_law_home => k_is)
    (case a_law_base => k_is); (case l_law_base => k_is); (case c_law_base => k_is); (case k_law_base => k_is)
    (case a_law_guest => k_is); (case l_law_guest => k_is); (case c_law_guest => k_is); (case k_law_guest => k_is)
    (case a_law_room => k_is); (case l_law_room => k_is); (case c_law_room => k_is); (case k_law_room => k_is)
    (case a_law_settled => k_is); (case l_law_settled => k_is); (case c_law_settled => k_is); (case k_law_settled => k_is)
    (case a_law_most => k_is); (case l_law_most => k_is); (case c_law_most => k_is); (case k_law_most => k_is)
    (case a_law_house => k_is); (case l_law_house => k_is); (case c_law_house => k_is); (case k_law_house => k_is)
    (case a_law_done => k_is); (case l_law_done => k_is); (case c_law_done => k_is); (case k_law_done => k_is)
    (case a_law_at => k_is); (case l_law_at => k_is); (case c_law_at => k_is); (case k_law_at => k_is)
    (case a_law_numbers => k_is); (case l_law_numbers => k_is); (case c_law_numbers => k_is); (case k_law_numbers => k_is)
    (case a_law_look => k_is); (case l_law_look => k_is); (case c_law_look => k_is); (case k_law_look => k_is)
    (case a_law_deed => k_is); (case l_law_deed => k_is); (case c_law_deed => k_is); (case k_law_deed => k_is)
    (case a_law => k_is); (case l_law => k_is); (case c_law => k_is); (case k_law => k_is)
    (case z_bool => k_is); (case z_enumerate => k_is); (case z_int => k_is); (case z_isinstance => k_is); (case z_len => k_is); (case z_list => k_is); (case z_range => k_is); (case z_set => k_is); (case z_sorted => k_is); (case z_zip => k_is)
