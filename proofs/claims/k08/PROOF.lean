import PyProof.Rows.All
import Wide.All
import OpenK.AllK
import Wide.FinOn
import HandS.ForMost
import HandS.ForExc
import HandS.IsInst
import HandS.Style
import HandS.SortInts
import HandS.ExcIs
import HandS.Conv
import HandS.Zip
import HandS.More
import PySem.Challenge.RW_ringseat_k08_whole_any_order
set_option Elab.async false
set_option linter.all false
set_option maxRecDepth 100000
set_option maxHeartbeats 4000000
/-! ### the ring: seats 0 .. n-1, far from a home, who goes ahead, settled seatings -/
namespace Ring
def far (n h p : Nat) : Nat := if h ≤ p then p - h else p + n - h
def nx (n p : Nat) : Nat := if p + 1 < n then p + 1 else 0
def pv (n p : Nat) : Nat := if p = 0 then n - 1 else p - 1
theorem far_lt {n h p : Nat} (hh : h < n) (hp : p < n) : far n h p < n := by unfold far; split <;> omega
theorem far_self {n h : Nat} : far n h h = 0 := by unfold far; simp
theorem far_zero {n h p : Nat} (hh : h < n) (e : far n h p = 0) : p = h := by unfold far at e; split at e <;> omega
theorem far_inj {n h p q : Nat} (hh : h < n) (hp : p < n) (hq : q < n) (e : far n h p = far n h q) : p = q := by unfold far at e; split at e <;> split at e <;> omega
theorem nx_lt {n p : Nat} (hp : p < n) : nx n p < n := by unfold nx; split <;> omega
theorem pv_lt {n p : Nat} (hp : p < n) : pv n p < n := by unfold pv; split <;> omega
theorem nx_pv {n p : Nat} (hp : p < n) : nx n (pv n p) = p := by unfold nx pv; split <;> split <;> omega
theorem pv_nx {n p : Nat} (hp : p < n) : pv n (nx n p) = p := by
  unfold nx
  split
  · unfold pv; rw [if_neg (by omega)]; omega
  · unfold pv; rw [if_pos rfl]; omega
theorem nx_ne {n p : Nat} (h2 : 2 ≤ n) (hp : p < n) : nx n p ≠ p := by unfold nx; split <;> omega
theorem far_nx {n h p : Nat} (hh : h < n) (hp : p < n) (e : nx n p ≠ h) : far n h (nx n p) = far n h p + 1 := by
  unfold nx at *; unfold far
  split at e <;> rename_i h1
  · rw [if_pos h1]; split <;> split <;> omega
  · rw [if_neg h1]; split <;> split <;> omega
theorem far_last {n h p : Nat} (hh : h < n) (hp : p < n) (e : nx n p = h) : far n h p = n - 1 := by
  unfold nx at *; unfold far
  split at e <;> split <;> omega
theorem far_pv {n h p : Nat} (hh : h < n) (hp : p < n) (e : p ≠ h) : far n h (pv n p) + 1 = far n h p := by
  have := far_nx (n := n) (h := h) (p := pv n p) hh (pv_lt hp) (by rw [nx_pv hp]; exact e)
  rw [nx_pv hp] at this; omega
theorem far_le {n h p q : Nat} (hh : h < n) (hp : p < n) (hq : q < n) (e : nx n p ≠ h) : far n h q < far n h (nx n p) ↔ far n h q < far n h p ∨ q = p := by
  rw [far_nx hh hp e]
  constructor
  · intro h1
    by_cases h2 : far n h q < far n h p
    · exact .inl h2
    · exact .inr (far_inj hh hq hp (by omega))
  · rintro (h1 | rfl) <;> omega
/-- the way to an empty seat grows shorter -/
theorem far_to {n p e : Nat} (hp : p < n) (he : e < n) (h : p ≠ e) : far n (nx n p) e + 1 = far n p e := by
  unfold nx far
  split <;> split <;> split <;> omega

def fup (f : Nat → Option Int) (p : Nat) (v : Option Int) : Nat → Option Int := fun q => if q = p then v else f q
theorem fup_same {f : Nat → Option Int} {p : Nat} {v : Option Int} : fup f p v p = v := by unfold fup; rw [if_pos rfl]
theorem fup_ne {f : Nat → Option Int} {p q : Nat} {v : Option Int} (h : q ≠ p) : fup f p v q = f q := by unfold fup; rw [if_neg h]

section
variable (n : Nat) (h : Int → Nat)
/-- y goes ahead of g at seat q -/
def Ah (y g : Int) (q : Nat) : Prop := far n (h g) q < far n (h y) q ∨ (far n (h y) q = far n (h g) q ∧ y < g)
instance (y g : Int) (q : Nat) : Decidable (Ah n h y g q) := by unfold Ah; exact inferInstance
def Car (f : Nat → Option Int) (g : Int) (p : Nat) : Prop := ∀ q, q < n → far n (h g) q < far n (h g) p → ∃ y, f q = some y ∧ Ah n h y g q
def Path (f : Nat → Option Int) : Prop := ∀ p, p < n → ∀ g, f p = some g → Car n h f g p
def Sits (f : Nat → Option Int) (g : Int) : Prop := ∃ p, p < n ∧ f p = some g
/-- where a look for g ends -/
def Loc (f : Nat → Option Int) (g : Int) (p : Nat) : Prop := Car n h f g p ∧ ∀ y, f p = some y → ¬ Ah n h y g p
end
section
variable {n : Nat} {h : Int → Nat} {f : Nat → Option Int}
theorem ah_irr {g : Int} {q : Nat} : ¬ Ah n h g g q := by unfold Ah; omega
theorem ah_asym {y g : Int} {q : Nat} (a : Ah n h y g q) : ¬ Ah n h g y q := by unfold Ah at *; omega
theorem ah_tot {y g : Int} {q : Nat} (a : ¬ Ah n h y g q) (e : y ≠ g) : Ah n h g y q := by unfold Ah at *; omega
theorem ah_trans {x y z : Int} {q : Nat} (a : Ah n h x y q) (b : Ah n h y z q) : Ah n h x z q := by unfold Ah at *; omega
theorem ah_nx (hh : ∀ g, h g < n) {y z : Int} {p : Nat} (hp : p < n) (ey : nx n p ≠ h y) (ez : nx n p ≠ h z) : Ah n h y z (nx n p) ↔ Ah n h y z p := by
  unfold Ah; rw [far_nx (hh _) hp ey, far_nx (hh _) hp ez]; omega
theorem car_home {g : Int} : Car n h f g (h g) := fun q _ a => by rw [far_self] at a; omega
theorem car_nx (hh : ∀ g, h g < n) {g y : Int} {p : Nat} (hp : p < n) (c : Car n h f g p) (e : f p = some y) (a : Ah n h y g p) : Car n h f g (nx n p) := by
  by_cases w : nx n p = h g
  · rw [w]; exact car_home
  · intro q hq hl
    rcases (far_le (hh g) hp hq w).mp hl with h1 | rfl
    · exact c q hq h1
    · exact ⟨y, e, a⟩
/-- no guest is carried round the whole ring while a seat is empty -/
theorem no_wrap (hh : ∀ g, h g < n) {g : Int} {p e : Nat} (hp : p < n) (he : e < n) (h0 : f e = none) (c : Car n h f g p) (h1 : f p ≠ none) : nx n p ≠ h g := by
  intro w
  have hl := far_last (hh g) hp w
  by_cases ee : e = p
  · exact h1 (ee ▸ h0)
  have : far n (h g) e < far n (h g) p := by
    have h3 := far_lt (hh g) he
    have : far n (h g) e ≠ far n (h g) p := fun x => ee (far_inj (hh g) he hp x)
    omega
  obtain ⟨y, hy, _⟩ := c e he this
  rw [h0] at hy; cases hy
theorem path_one (hh : ∀ g, h g < n) (P : Path n h f) {x : Int} {p q : Nat} (hp : p < n) (hq : q < n) (e1 : f p = some x) (e2 : f q = some x) : p = q := by
  by_cases e : far n (h x) p = far n (h x) q
  · exact far_inj (hh x) hp hq e
  by_cases l : far n (h x) p < far n (h x) q
  · obtain ⟨y, hy, a⟩ := P q hq x e2 p hp l
    rw [e1] at hy; cases hy; exact absurd a ah_irr
  · obtain ⟨y, hy, a⟩ := P p hp x e1 q hq (by omega)
    rw [e2] at hy; cases hy; exact absurd a ah_irr
theorem loc_one (hh : ∀ g, h g < n) {g : Int} {p q : Nat} (hp : p < n) (hq : q < n) (a : Loc n h f g p) (b : Loc n h f g q) : p = q := by
  by_cases e : far n (h g) p = far n (h g) q
  · exact far_inj (hh g) hp hq e
  by_cases l : far n (h g) p < far n (h g) q
  · obtain ⟨y, hy, c⟩ := b.1 p hp l
    exact absurd c (a.2 y hy)
  · obtain ⟨y, hy, c⟩ := a.1 q hq (by omega)
    exact absurd c (b.2 y hy)
theorem path_loc (P : Path n h f) {g : Int} {p : Nat} (hp : p < n) (e : f p = some g) : Loc n h f g p := ⟨P p hp g e, fun y hy => by rw [e] at hy; cases hy; exact ah_irr⟩
/-- a guest sits where the look ends, or nowhere -/
theorem loc_sits (hh : ∀ g, h g < n) (P : Path n h f) {g : Int} {p : Nat} (hp : p < n) (l : Loc n h f g p) : Sits n f g ↔ f p = some g :=
  ⟨fun ⟨q, hq, e⟩ => by rw [loc_one hh hp hq l (path_loc P hq e)]; exact e, fun e => ⟨p, hp, e⟩⟩
theorem step_put {g : Int} {p : Nat} (P : Path n h f) (c : Car n h f g p) (e : f p = none) : Path n h (fup f p (some g)) := by
  intro q hq x hx
  by_cases w : q = p
  · subst w; rw [fup_same] at hx; cases hx
    intro r hr hl
    have : r ≠ q := fun e => by rw [e] at hl; omega
    rw [fup_ne this]; exact c r hr hl
  · rw [fup_ne w] at hx
    intro r hr hl
    obtain ⟨y, hy, a⟩ := P q hq x hx r hr hl
    have : r ≠ p := fun z => by rw [z, e] at hy; cases hy
    rw [fup_ne this]; exact ⟨y, hy, a⟩
theorem step_swap (hh : ∀ g, h g < n) {g y : Int} {p : Nat} (hp : p < n) (P : Path n h f) (c : Car n h f g p) (e : f p = some y) (a : Ah n h g y p) :
    Path n h (fup f p (some g)) ∧ Car n h (fup f p (some g)) y (nx n p) := by
  constructor
  · intro q hq x hx
    by_cases w : q = p
    · subst w; rw [fup_same] at hx; cases hx
      intro r hr hl
      have : r ≠ q := fun e => by rw [e] at hl; omega
      rw [fup_ne this]; exact c r hr hl
    · rw [fup_ne w] at hx
      intro r hr hl
      obtain ⟨z, hz, b⟩ := P q hq x hx r hr hl
      by_cases w2 : r = p
      · subst w2; rw [fup_same]; rw [e] at hz; cases hz
        exact ⟨g, rfl, ah_trans a b⟩
      · rw [fup_ne w2]; exact ⟨z, hz, b⟩
  · refine car_nx hh hp (y := g) ?_ fup_same a
    intro r hr hl
    have : r ≠ p := fun e => by rw [e] at hl; omega
    rw [fup_ne this]; exact P p hp y e r hr hl
/-- who is pushed on goes ahead of who sits on the next seat -/
theorem push_next (h2 : 2 ≤ n) (hh : ∀ g, h g < n) {y z : Int} {p e : Nat} (hp : p < n) (he : e < n) (h0 : f e = none) (P : Path n h f) (ey : f p = some y) (ez : f (nx n p) = some z) : Ah n h y z (nx n p) := by
  have wy := no_wrap hh hp he h0 (P p hp y ey) (by rw [ey]; exact fun x => nomatch x)
  by_cases wz : nx n p = h z
  · have : far n (h z) (nx n p) = 0 := by rw [wz]; exact far_self
    refine .inl ?_
    rw [this, far_nx (hh y) hp wy]; omega
  · rw [ah_nx hh hp wy wz]
    obtain ⟨y', hy', a⟩ := P _ (nx_lt hp) z ez p hp (by rw [far_nx (hh z) hp wz]; omega)
    rw [ey] at hy'; cases hy'; exact a
/-- who sits away from home has one ahead of it on the seat before -/
theorem path_before (hh : ∀ g, h g < n) (P : Path n h f) {g : Int} {p : Nat} (hp : p < n) (e : f p = some g) (w : h g ≠ p) : ∃ y, f (pv n p) = some y ∧ Ah n h y g (pv n p) :=
  P p hp g e _ (pv_lt hp) (by have := far_pv (hh g) hp (fun z => w z.symm); omega)
/-! who sits, behind a step -/
theorem sits_put {g : Int} {p : Nat} (hp : p < n) (e : f p = none) (x : Int) : Sits n (fup f p (some g)) x ↔ Sits n f x ∨ x = g := by
  constructor
  · rintro ⟨q, hq, hx⟩
    by_cases w : q = p
    · subst w; rw [fup_same] at hx; cases hx; exact .inr rfl
    · rw [fup_ne w] at hx; exact .inl ⟨q, hq, hx⟩
  · rintro (⟨q, hq, hx⟩ | rfl)
    · have w : q ≠ p := fun z => by rw [z, e] at hx; cases hx
      exact ⟨q, hq, by rw [fup_ne w]; exact hx⟩
    · exact ⟨p, hp, fup_same⟩
theorem sits_swap {g y : Int} {p : Nat} (hp : p < n) (e : f p = some y) (x : Int) : (Sits n (fup f p (some g)) x ∨ x = y) ↔ (Sits n f x ∨ x = g) := by
  constructor
  · rintro (⟨q, hq, hx⟩ | rfl)
    · by_cases w : q = p
      · subst w; rw [fup_same] at hx; cases hx; exact .inr rfl
      · rw [fup_ne w] at hx; exact .inl ⟨q, hq, hx⟩
    · exact .inl ⟨p, hp, e⟩
  · rintro (⟨q, hq, hx⟩ | rfl)
    · by_cases w : q = p
      · subst w; rw [e] at hx; cases hx; exact .inr rfl
      · exact .inl ⟨q, hq, by rw [fup_ne w]; exact hx⟩
    · exact .inl ⟨p, hp, fup_same⟩
/-! taking a guest out: seat `at` is open, its entry stale -/
def PathX (n : Nat) (h : Int → Nat) (f : Nat → Option Int) (o : Nat) : Prop := ∀ q, q < n → q ≠ o → ∀ x, f q = some x → Car n h f x q
def SitsX (n : Nat) (f : Nat → Option Int) (o : Nat) (g : Int) : Prop := ∃ p, p < n ∧ p ≠ o ∧ f p = some g
theorem pathX_of (P : Path n h f) (o : Nat) : PathX n h f o := fun q hq _ x hx => P q hq x hx
theorem out_step (h2 : 2 ≤ n) (hh : ∀ g, h g < n) {y w : Int} {o : Nat} (ho : o < n) (P : PathX n h f o) (hw : f o = some w) (e : f (nx n o) = some y) (a : h y ≠ nx n o) :
    PathX n h (fup f o (some y)) (nx n o) := by
  have hb := nx_lt ho
  have hne := nx_ne h2 ho
  intro q hq wq x hx
  by_cases c1 : q = o
  · subst c1; rw [fup_same] at hx; cases hx
    intro r hr hl
    have : r ≠ q := fun e => by rw [e] at hl; omega
    rw [fup_ne this]
    exact P _ hb hne y e r hr (by rw [far_nx (hh y) ho (fun z => a z.symm)]; omega)
  · rw [fup_ne c1] at hx
    intro r hr hl
    by_cases c2 : r = o
    · subst c2; rw [fup_same]
      refine ⟨y, rfl, ?_⟩
      have hx2 : nx n r ≠ h x := fun z => by
        have := far_last (hh x) ho z
        have := far_lt (hh x) hq
        omega
      have hl2 : far n (h x) (nx n r) < far n (h x) q := by
        have h3 := far_nx (hh x) ho hx2
        have : far n (h x) (nx n r) ≠ far n (h x) q := fun z => wq (far_inj (hh x) hb hq z).symm
        omega
      obtain ⟨y', hy', ah⟩ := P q hq c1 x hx _ hb hl2
      rw [e] at hy'; cases hy'
      exact (ah_nx hh ho (fun z => a z.symm) hx2).mp ah
    · rw [fup_ne c2]; exact P q hq c1 x hx r hr hl
theorem out_sits (h2 : 2 ≤ n) {y : Int} {o : Nat} (ho : o < n) (e : f (nx n o) = some y) (x : Int) : SitsX n (fup f o (some y)) (nx n o) x ↔ SitsX n f o x := by
  have hne := nx_ne h2 ho
  constructor
  · rintro ⟨q, hq, c, hx⟩
    by_cases w : q = o
    · subst w; rw [fup_same] at hx; cases hx; exact ⟨_, nx_lt ho, hne, e⟩
    · rw [fup_ne w] at hx; exact ⟨q, hq, w, hx⟩
  · rintro ⟨q, hq, c, hx⟩
    by_cases w : q = nx n o
    · subst w; rw [e] at hx; cases hx; exact ⟨o, ho, fun z => hne z.symm, fup_same⟩
    · exact ⟨q, hq, w, by rw [fup_ne c]; exact hx⟩
theorem out_end (h2 : 2 ≤ n) (hh : ∀ g, h g < n) {o : Nat} (ho : o < n) (P : PathX n h f o) (e : ∀ y, f (nx n o) = some y → h y = nx n o) : Path n h (fup f o none) := by
  have hb := nx_lt ho
  have hne := nx_ne h2 ho
  intro q hq x hx
  by_cases c1 : q = o
  · subst c1; rw [fup_same] at hx; cases hx
  · rw [fup_ne c1] at hx
    intro r hr hl
    by_cases c2 : r = o
    · subst c2
      exfalso
      have hx2 : nx n r ≠ h x := fun z => by
        have := far_last (hh x) ho z
        have := far_lt (hh x) hq
        omega
      by_cases c3 : q = nx n r
      · subst c3; exact hx2 (e x hx).symm
      · have h3 := far_nx (hh x) ho hx2
        have : far n (h x) (nx n r) ≠ far n (h x) q := fun z => c3 (far_inj (hh x) hb hq z).symm
        obtain ⟨y, hy, ah⟩ := P q hq c1 x hx _ hb (by omega)
        have e1 := e y hy
        have : far n (h y) (nx n r) = 0 := by rw [e1]; exact far_self
        unfold Ah at ah; omega
    · rw [fup_ne c2]; exact P q hq c1 x hx r hr hl
theorem outEnd_sits {o : Nat} (x : Int) : Sits n (fup f o none) x ↔ SitsX n f o x := by
  constructor
  · rintro ⟨q, hq, hx⟩
    by_cases w : q = o
    · subst w; rw [fup_same] at hx; cases hx
    · rw [fup_ne w] at hx; exact ⟨q, hq, w, hx⟩
  · rintro ⟨q, hq, c, hx⟩
    exact ⟨q, hq, by rw [fup_ne c]; exact hx⟩
theorem sitsX_of (hh : ∀ g, h g < n) (P : Path n h f) {o : Nat} {g : Int} (ho : o < n) (e : f o = some g) (x : Int) : SitsX n f o x ↔ Sits n f x ∧ x ≠ g := by
  constructor
  · rintro ⟨q, hq, c, hx⟩
    exact ⟨⟨q, hq, hx⟩, fun z => c (path_one hh P hq ho hx (z ▸ e))⟩
  · rintro ⟨⟨q, hq, hx⟩, c⟩
    exact ⟨q, hq, fun z => by rw [z, e] at hx; cases hx; exact c rfl, hx⟩
/-! one settled seating alone -/
theorem far_before {n h p q e : Nat} (hh : h < n) (hp : p < n) (hq : q < n) (he : e < n) (h1 : far n h p < far n h q) (h2 : far n h q < far n h e) : far n (nx n e) p < far n (nx n e) q := by
  unfold nx
  split
  · unfold far at *; split <;> split <;> (split at h1 <;> split at h1 <;> split at h2 <;> split at h2 <;> omega)
  · unfold far at *; split <;> split <;> (split at h1 <;> split at h1 <;> split at h2 <;> split at h2 <;> omega)
theorem one_side (hh : ∀ g, h g < n) {s t : Nat → Option Int} (S : Path n h s) (T : Path n h t) (st : ∀ g, Sits n t g → Sits n s g) {e : Nat} (he : e < n) (h0 : t e = none) :
    ∀ (m : Nat) (g : Int) (p q : Nat), p < n → q < n → s p = some g → t q = some g → far n (nx n e) q ≤ m → ¬ far n (h g) p < far n (h g) q := by
  intro m
  induction m with
  | zero =>
    intro g p q hp hq hs ht hm hl
    have c := T q hq g ht
    have : far n (h g) q < far n (h g) e := by
      have h1 : e ≠ q := fun z => by rw [← z, h0] at ht; cases ht
      have h3 : far n (h g) e ≠ far n (h g) q := fun z => h1 (far_inj (hh g) he hq z)
      by_cases h4 : far n (h g) e < far n (h g) q
      · obtain ⟨y, hy, _⟩ := c e he h4; rw [h0] at hy; cases hy
      · omega
    have := far_before (hh g) hp hq he hl this
    omega
  | succ m ih =>
    intro g p q hp hq hs ht hm hl
    have c := T q hq g ht
    have h5 : far n (h g) q < far n (h g) e := by
      have h1 : e ≠ q := fun z => by rw [← z, h0] at ht; cases ht
      have h3 : far n (h g) e ≠ far n (h g) q := fun z => h1 (far_inj (hh g) he hq z)
      by_cases h4 : far n (h g) e < far n (h g) q
      · obtain ⟨y, hy, _⟩ := c e he h4; rw [h0] at hy; cases hy
      · omega
    have h6 := far_before (hh g) hp hq he hl h5
    obtain ⟨y, hy, a⟩ := c p hp hl
    obtain ⟨p', hp', hy'⟩ := st y ⟨p, hp, hy⟩
    refine ih y p' p hp' hp hy' hy (by omega) ?_
    have h7 : p' ≠ p := fun z => by
      rw [z, hs] at hy'; cases hy'; exact ah_irr a
    have h8 : far n (h y) p' ≠ far n (h y) p := fun z => h7 (far_inj (hh y) hp' hp z)
    by_cases h9 : far n (h y) p < far n (h y) p'
    · obtain ⟨z, hz, b⟩ := S p' hp' y hy' p hp h9
      rw [hs] at hz; cases hz
      exact absurd b (ah_asym a)
    · omega
theorem alike (hh : ∀ g, h g < n) {s t : Nat → Option Int} (S : Path n h s) (T : Path n h t) (st : ∀ g, Sits n t g ↔ Sits n s g) (h0 : ∃ e, e < n ∧ t e = none) (h1 : ∃ e, e < n ∧ s e = none) :
    ∀ p, p < n → s p = t p := by
  obtain ⟨e, he, h0⟩ := h0
  obtain ⟨e', he', h1⟩ := h1
  have key : ∀ p g, p < n → (s p = some g ↔ t p = some g) := by
    intro p g hp
    constructor
    · intro hs
      obtain ⟨q, hq, ht⟩ := (st g).mpr ⟨p, hp, hs⟩
      have a := one_side hh S T (fun g => (st g).mp) he h0 _ g p q hp hq hs ht (Nat.le_refl _)
      have b := one_side hh T S (fun g => (st g).mpr) he' h1 _ g q p hq hp ht hs (Nat.le_refl _)
      rw [far_inj (hh g) hp hq (by omega)]; exact ht
    · intro ht
      obtain ⟨q, hq, hs⟩ := (st g).mp ⟨p, hp, ht⟩
      have a := one_side hh S T (fun g => (st g).mp) he h0 _ g q p hq hp hs ht (Nat.le_refl _)
      have b := one_side hh T S (fun g => (st g).mpr) he' h1 _ g p q hp hq ht hs (Nat.le_refl _)
      rw [far_inj (hh g) hp hq (by omega)]; exact hs
  intro p hp
  cases hs : s p with
  | some g => exact ((key p g hp).mp hs).symm
  | none =>
    cases ht : t p with
    | none => rfl
    | some g => rw [(key p g hp).mpr ht] at hs; cases hs
end
end Ring
/-! ### who sits, as a list -/
namespace Ring
def gl (n : Nat) (f : Nat → Option Int) : List Int := (List.range n).filterMap f
def em (n : Nat) (f : Nat → Option Int) : Nat := (List.range n).countP (fun p => (f p).isNone)
theorem mem_gl {n : Nat} {f : Nat → Option Int} {x : Int} : x ∈ gl n f ↔ Sits n f x := by
  unfold gl Sits
  rw [List.mem_filterMap]
  exact ⟨fun ⟨p, hp, e⟩ => ⟨p, List.mem_range.mp hp, e⟩, fun ⟨p, hp, e⟩ => ⟨p, List.mem_range.mpr hp, e⟩⟩
theorem fm_len (l : List Nat) (f : Nat → Option Int) : (l.filterMap f).length + l.countP (fun p => (f p).isNone) = l.length := by
  induction l with
  | nil => rfl
  | cons a l ih =>
    cases e : f a with
    | none => rw [List.filterMap_cons_none e, List.countP_cons_of_pos (by simp [e]), List.length_cons]; omega
    | some y => rw [List.filterMap_cons_some e, List.countP_cons_of_neg (by simp [e]), List.length_cons, List.length_cons]; omega
theorem gl_em (n : Nat) (f : Nat → Option Int) : (gl n f).length + em n f = n := by
  have := fm_len (List.range n) f
  rw [List.length_range] at this; exact this
theorem em_pos {n : Nat} {f : Nat → Option Int} : 0 < em n f ↔ ∃ e, e < n ∧ f e = none := by
  unfold em
  rw [List.countP_pos_iff]
  constructor
  · rintro ⟨a, ha, e⟩; exact ⟨a, List.mem_range.mp ha, by simpa using e⟩
  · rintro ⟨a, ha, e⟩; exact ⟨a, List.mem_range.mpr ha, by simpa using e⟩
theorem fm_nodup (l : List Nat) (hl : l.Nodup) (f : Nat → Option Int) (one : ∀ p q x, p ∈ l → q ∈ l → f p = some x → f q = some x → p = q) : (l.filterMap f).Nodup := by
  induction l with
  | nil => exact List.nodup_nil
  | cons a l ih =>
    obtain ⟨h1, h2⟩ := List.nodup_cons.mp hl
    have ih' := ih h2 fun p q x hp hq => one p q x (List.mem_cons_of_mem _ hp) (List.mem_cons_of_mem _ hq)
    cases e : f a with
    | none => rw [List.filterMap_cons_none e]; exact ih'
    | some y =>
      rw [List.filterMap_cons_some e]
      refine List.nodup_cons.mpr ⟨fun hm => ?_, ih'⟩
      obtain ⟨b, hb, e2⟩ := List.mem_filterMap.mp hm
      have := one a b y List.mem_cons_self (List.mem_cons_of_mem _ hb) e e2
      exact h1 (this ▸ hb)
theorem gl_nodup {n : Nat} {h : Int → Nat} {f : Nat → Option Int} (hh : ∀ g, h g < n) (P : Path n h f) : (gl n f).Nodup :=
  fm_nodup _ List.nodup_range f fun _ _ _ hp hq e1 e2 => path_one hh P (List.mem_range.mp hp) (List.mem_range.mp hq) e1 e2
theorem perm_of {a b : List Int} (ha : a.Nodup) (hb : b.Nodup) (e : ∀ x, x ∈ a ↔ x ∈ b) : a.Perm b := (List.perm_ext_iff_of_nodup ha hb).mpr e
theorem gl_perm {n : Nat} {h : Int → Nat} {f : Nat → Option Int} (hh : ∀ g, h g < n) (P : Path n h f) {gs : List Int} (hn : gs.Nodup) (e : ∀ x, Sits n f x ↔ x ∈ gs) : (gl n f).Perm gs :=
  perm_of (gl_nodup hh P) hn fun x => by rw [mem_gl]; exact e x
theorem em_of {n : Nat} {h : Int → Nat} {f : Nat → Option Int} (hh : ∀ g, h g < n) (P : Path n h f) {gs : List Int} (hn : gs.Nodup) (e : ∀ x, Sits n f x ↔ x ∈ gs) : em n f + gs.length = n := by
  have := gl_em n f
  rw [(gl_perm hh P hn e).length_eq] at this; omega
/-- no seat, no guest -/
theorem path_none {n : Nat} {h : Int → Nat} : Path n h (fun _ => none) := fun _ _ _ e => nomatch e
theorem sits_none {n : Nat} {x : Int} : ¬ Sits n (fun _ => none) x := fun ⟨_, _, e⟩ => nomatch e
/-- a look ends: where a seat is empty -/
theorem loc_or (n : Nat) (h : Int → Nat) (f : Nat → Option Int) (g : Int) (p : Nat) : (f p = none ∨ (∃ y, f p = some y ∧ ¬ Ah n h y g p)) ∨ ∃ y, f p = some y ∧ Ah n h y g p := by
  cases e : f p with
  | none => exact .inl (.inl rfl)
  | some y =>
    by_cases a : Ah n h y g p
    · exact .inr ⟨y, rfl, a⟩
    · exact .inl (.inr ⟨y, rfl, a⟩)
end Ring
namespace Ring
theorem swap_out {n : Nat} {h : Int → Nat} {f : Nat → Option Int} (hh : ∀ g, h g < n) (P : Path n h f) {g y : Int} {p : Nat} (hp : p < n) (e : f p = some y) (ng : ¬ Sits n f g) : ¬ Sits n (fup f p (some g)) y := by
  rintro ⟨q, hq, hx⟩
  by_cases w : q = p
  · subst w; rw [fup_same] at hx; cases hx; exact ng ⟨q, hq, e⟩
  · rw [fup_ne w] at hx; exact w (path_one hh P hq hp hx e)
end Ring
/-! ### the home of a guest, how far it is carried, who goes ahead: as the program reckons, and on the ring -/
namespace RS
def homeI (g n : Int) : Int := (g * 40503 + g / 65536) % 65536 % n
def farI (g p n : Int) : Int := (p - homeI g n) % n
def aheadI (a b p n : Int) : Bool := decide (farI b p n < farI a p n ∨ (farI a p n = farI b p n ∧ a < b))
def hm (n : Nat) (g : Int) : Nat := (homeI g n).toNat
theorem homeI_lo {g n : Int} (hn : 0 < n) : 0 ≤ homeI g n := Int.emod_nonneg _ (by omega)
theorem homeI_hi {g n : Int} (hn : 0 < n) : homeI g n < n := Int.emod_lt_of_pos _ hn
theorem farI_lo {g p n : Int} (hn : 0 < n) : 0 ≤ farI g p n := Int.emod_nonneg _ (by omega)
theorem farI_hi {g p n : Int} (hn : 0 < n) : farI g p n < n := Int.emod_lt_of_pos _ hn
theorem hm_is {n : Nat} (hn : 0 < n) (g : Int) : homeI g n = (hm n g : Int) := by
  have := homeI_lo (g := g) (n := n) (by omega)
  unfold hm; omega
theorem hm_lt {n : Nat} (hn : 0 < n) (g : Int) : hm n g < n := by
  have := homeI_hi (g := g) (n := n) (by omega)
  have := hm_is hn g
  omega
theorem mod_far {n h p : Nat} (hh : h < n) (hp : p < n) : ((p : Int) - (h : Int)) % (n : Int) = (Ring.far n h p : Int) := by
  unfold Ring.far
  split
  · rw [Int.emod_eq_of_lt (by omega) (by omega)]; omega
  · rw [← Int.add_emod_right, Int.emod_eq_of_lt (by omega) (by omega)]; omega
theorem far_is {n p : Nat} (hp : p < n) (g : Int) : farI g p n = (Ring.far n (hm n g) p : Int) := by
  have hn : 0 < n := by omega
  unfold farI
  rw [hm_is hn, mod_far (hm_lt hn g) hp]
theorem nx_is {n p : Nat} (hp : p < n) : ((p : Int) + 1) % (n : Int) = (Ring.nx n p : Int) := by
  unfold Ring.nx
  split
  · rw [Int.emod_eq_of_lt (by omega) (by omega)]; omega
  · have : (p : Int) + 1 = n := by omega
    rw [this, Int.emod_self]; rfl
theorem pv_is {n p : Nat} (hp : p < n) : ((p : Int) - 1) % (n : Int) = (Ring.pv n p : Int) := by
  unfold Ring.pv
  split
  · rename_i e
    rw [← Int.add_emod_right, Int.emod_eq_of_lt (by omega) (by omega)]; omega
  · rw [Int.emod_eq_of_lt (by omega) (by omega)]; omega
theorem ahead_is {n p : Nat} (hp : p < n) (a b : Int) : aheadI a b p n = decide (Ring.Ah n (hm n) a b p) := by
  unfold aheadI Ring.Ah
  rw [far_is hp, far_is hp]
  refine decide_eq_decide.mpr ?_
  constructor
  · rintro (h | ⟨h1, h2⟩)
    · exact .inl (by omega)
    · exact .inr ⟨by omega, h2⟩
  · rintro (h | ⟨h1, h2⟩)
    · exact .inl (by omega)
    · exact .inr ⟨by omega, h2⟩
end RS
/-! ### words of our own: a def that stands behind the top, a def that keeps its promise, the call of one -/
namespace RS
open PySem PySem.Spec PyProof.Rows L2

abbrev rAdd : R2 := rI0 fun i j => .int (i + j)
abbrev rSub : R2 := rI0 fun i j => .int (i - j)
abbrev rMod : R2 := rI (fun _ j => 0 < j) fun i j => .int (i % j)
abbrev rFdv : R2 := rI CDiv fun i j => .int (i / j)
abbrev rLt : R2 := rI0 fun i j => .bl (decide (i < j))
abbrev rLe : R2 := rI0 fun i j => .bl (decide (i ≤ j))
abbrev rGt : R2 := rI0 fun i j => .bl (decide (j < i))
abbrev rGe : R2 := rI0 fun i j => .bl (decide (j ≤ i))
abbrev rNeg : V → Hp → VK → Prop := rU fun i => .int (-i)
/-- one factor within 64 bits -/
def CMl (i j : Int) : Prop := (-18446744073709551616 < i ∧ i < 18446744073709551616) ∨ (-18446744073709551616 < j ∧ j < 18446744073709551616)
theorem CMl.ok {i j : Int} (h : CMl i j) : CMul i j := h
abbrev rMul : R2 := rI CMl fun i j => .int (i * j)
theorem op_mulL {X : Cx} : OpR X (binaryOp .Mult) rMul := by
  intro pins s σ H x y u v Q I rx ry h
  obtain ⟨i, j, hx, hy, hc, q⟩ := h
  exact op_mul pins s σ H x y u v Q I rx ry ⟨i, j, hx, hy, hc.ok, q⟩
/-- a power of two written numbers, by its value -/
theorem pe_pow {X : Cx} {a b : Int} {m n N : Nat} {j1 j2 : Nat} {p1 p2 pos : Pos} (ha : a = (m : Int)) (hb : b = (n : Int)) (hN : m ^ n = N) (hn : (n : Int) ≤ 1000000) (hm : m < 18446744073709551616) :
    PE X (.BinOp (.Constant (.int a) j1 p1) .Pow (.Constant (.int b) j2 p2) pos) (tC (.int (N : Int))) := by
  refine ⟨fun pins s σ H Q I h => ?_⟩
  refine (pe_op op_pow pe_int pe_int).run pins s σ H Q I ⟨a, b, rfl, rfl, ⟨by omega, by omega, by subst ha; rw [Int.natAbs_natCast]; exact hm⟩, ?_⟩
  show Q (.int (a ^ b.toNat)) H
  rw [hb, Int.toNat_natCast, ha, ← Int.natCast_pow, hN]
  exact h
def rLenS (K : PySem.W.Frag) : List V → Hp → VK → Prop := fun xs H Q => ∃ p ys, xs = [.ref p] ∧ (SqL K H p ys ∨ SqT K H p ys) ∧ Q (.int ys.length) H
def rLenD : List V → Hp → VK → Prop := fun xs H Q => ∃ a kvs, xs = [V.ref a] ∧ H a = some (.dK kvs) ∧ Q (.int kvs.length) H
def rListS (K : PySem.W.Frag) : List V → Hp → VK → Prop := fun xs H Q => ∃ p ys, xs = [.ref p] ∧ (SqL K H p ys ∨ SqT K H p ys) ∧ ∀ l, H l = none → Q (.ref l) (upd H l (.lst ys))
def rMax2 : List V → Hp → VK → Prop := fun xs H Q => ∃ i j, xs = [.int i, .int j] ∧ Q (.int (if j > i then j else i)) H
def rMin2 : List V → Hp → VK → Prop := fun xs H Q => ∃ i j, xs = [.int i, .int j] ∧ Q (.int (if j < i then j else i)) H
def rInt1 : List V → Hp → VK → Prop := fun xs H Q => (∃ i, xs = [.int i] ∧ Q (.int i) H) ∨ ∃ k, xs = [.bl k] ∧ Q (.int (if k then 1 else 0)) H
def rStr1 : List V → Hp → VK → Prop := fun xs H Q => ∃ i, xs = [.int i] ∧ i.natAbs.log2 < 1920 ∧ Q (.str (toString i)) H

/-- the program's classes, by where they stand -/
structure Cs where
  cRingError : Addr
  cNoGuest : Addr
  cNoSize : Addr
  cTwice : Addr
  cAway : Addr
  cFull : Addr
  cHouse : Addr

/-- a def of the text, by its name -/
structure Def (K : PySem.W.Frag) (mg : Str → Option Value) (x : Str) (st : Stmt) : Prop where
  ex : ∃ f fd, Fun K x x st f fd ∧ mg x = some (.ref f)
theorem def_mk {K : PySem.W.Frag} {h : Heap} {mg : Str → Option Value} {x : Str} {st : Stmt} {f : Addr} (X : K.In h) (G : h.Ns mainGlobals mg)
    {od an : Option Addr} {sl : Array (Option Value)} {oc kV dc pm cd ct : Value}
    (a : PySem.W.nsIn K mainGlobals x = some (some (.ref f))) (l : K.lookup f = some ⟨oc, od, .func (PySem.W.fnOf x x (defArgs st) (defBody st) (defScope st) .none kV dc pm an cd ct), sl⟩)
    (c : PySem.W.codeIn K cd x = true) (k : PySem.W.keepIn K (.ref f) = true) : Def K mg x st :=
  ⟨f, _, fun_mk l c k, PySem.W.mg_of X G a⟩

/-- a def that keeps its promise, by its name -/
structure Cal (P : Program) (w : World) (K : PySem.W.Frag) (mg : Str → Option Value) (base : Heap) (CX : CXT) (k : Nat) (x : Str) (ps : List Str) (sp : Sp) : Prop where
  ex : ∃ f fd, FnOk P w K mg base CX k f fd ps sp ∧ mg x = some (.ref f) ∧ PySem.W.keepIn K (.ref f) = true ∧ Binds K fd ps []
section
variable {X : Cx} {CX : CXT} {k : Nat} {ps : List Str} {sp : Sp} {E : XK} {x : Str} {p pos : Pos} {e : Expr} {es : List Expr} {t : TA}
theorem pe_fn (c : Cal X.prog X.w X.K X.mg X.base CX k x ps sp) (hr : Room k X.A) (hx : Passes CX X E) (ha : PA X (e :: es) t) (hg : Gl X x := by rfl) (hdb : (x == ("__debug__" : Str)) = false := by decide)
    (he : starEach (e :: es) X.env = (false, eval e X.env) :: starEach es X.env := by rfl) (hpl : (backTo pos (starEach es X.env)).any (·.1) = false := by rfl) :
    PE X (.Call (.Name x p) (e :: es) [] pos) (tCall sp [] E t) := by
  obtain ⟨f, fd, G, hm, hk, hb⟩ := c.ex
  exact pe_call G hr hg hm hk hb .nil hx ha hdb he hpl
end
theorem iteB {c : Bool} {A B : Prop} (h1 : c = true → A) (h2 : c = false → B) : if c = true then A else B := by
  cases c with
  | true => rw [if_pos rfl]; exact h1 rfl
  | false => rw [if_neg Bool.false_ne_true]; exact h2 rfl
end RS
/-! ### isinstance of the built-in kinds, by what a value is -/
namespace RS
open PySem PySem.Spec PyProof.Rows L2
inductive Ty where
  | int | bool | none | str | list | tuple | dict
  deriving DecidableEq
def Ty.nm : Ty → String
  | .int => "int" | .bool => "bool" | .none => "NoneType" | .str => "str" | .list => "list" | .tuple => "tuple" | .dict => "dict"
def Ty.isA : Ty → Ty → Bool
  | .int, .int => true | .bool, .bool => true | .bool, .int => true | .none, .none => true | .str, .str => true | .list, .list => true | .tuple, .tuple => true | .dict, .dict => true | _, _ => false
def hoTy : HO → Option Ty
  | .lst _ => some .list | .tup _ => some .tuple | .dK _ => some .dict | .frz _ (.lst _) => some .list | _ => Option.none
def tyOf (H : Hp) : V → Option Ty
  | .int _ => some .int | .bl _ => some .bool | .non => some .none | .str _ => some .str
  | .ref a => (H a).bind hoTy
  | _ => Option.none
theorem tyOf_int {H : Hp} {i : Int} : tyOf H (.int i) = some .int := rfl
theorem tyOf_bl {H : Hp} {i : Bool} : tyOf H (.bl i) = some .bool := rfl
theorem tyOf_non {H : Hp} : tyOf H .non = some .none := rfl
theorem tyOf_str {H : Hp} {i : Str} : tyOf H (.str i) = some .str := rfl
theorem tyX_of {K : PySem.W.Frag} {H : Hp} {x : V} {s : Ty} (h : tyOf H x = some s) : TyX K H x (.type s.nm) := by
  cases x with
  | int i => cases h; exact .base (.int i)
  | bl b => cases h; exact .base (.bl b)
  | non => cases h; exact .base .non
  | str z => cases h; exact .base (.str z)
  | byt b => cases h
  | flt b => cases h
  | ty n => cases h
  | ref a =>
    have h' : (H a).bind hoTy = some s := h
    cases e : H a with
    | none => rw [e] at h'; cases h'
    | some o =>
      rw [e] at h'
      have h2 : hoTy o = some s := h'
      cases o with
      | lst xs => cases h2; exact .base (.lst e)
      | tup xs => cases h2; exact .base (.tup e)
      | dK kvs => cases h2; exact .base (.dK e)
      | frz ob u =>
        cases u with
        | lst xs => cases h2; exact .base (.frz e)
        | _ => cases h2
      | _ => cases h2
theorem kit_is : ∀ s c : Ty, (c = .int ∨ c = .bool ∨ c = .list ∨ c = .tuple) → kitB s.nm c.nm = some (s.isA c) := by
  intro s c hc
  rcases hc with rfl | rfl | rfl | rfl <;> cases s <;> decide +kernel
def isWh : V → Bool
  | .int _ => true
  | _ => false
theorem isWh_int {i : Int} : isWh (.int i) = true := rfl
theorem isWh_bl {i : Bool} : isWh (.bl i) = false := rfl
theorem isWh_non : isWh .non = false := rfl
theorem isWh_ref {i : Addr} : isWh (.ref i) = false := rfl
def rIsA (c : Ty) : List V → Hp → VK → Prop := fun xs H Q => ∃ x s, xs = [x, .ty c.nm] ∧ tyOf H x = some s ∧ Q (.bl (s.isA c)) H
theorem call_isA {X : Cx} {c : Ty} (hc : c = .int ∨ c = .bool ∨ c = .list ∨ c = .tuple := by first | exact .inl rfl | exact .inr (.inl rfl) | exact .inr (.inr (.inl rfl)) | exact .inr (.inr (.inr rfl))) : CallR X (.builtin "isinstance") (rIsA c) := by
  intro pins s σ H xs us Q I r h
  obtain ⟨x, t, rfl, ht, q⟩ := h
  exact call_isi pins s σ H _ us Q I r ⟨x, .ty c.nm, _, _, _, rfl, .ty _, tyX_of ht, kit_ty (kit_is t c hc), q⟩

/-! ### steps -/
section
variable {K : PySem.W.Frag} {ta : TA} {te tl : TE} {g : TG} {tb t u : TS} {c : TT} {D : Ends} {σ : L2.St} {H H' : Hp}
theorem for_rng1 {j : Int} {n : Nat} (hta : ∀ R : List V → Hp → Prop, R [.int j] H' → ta σ H R) (hj : j = (n : Int)) (hn : n < 2 ^ 62) (Pv : Nat → L2.St → Hp → Prop) (h0 : Pv 0 σ H')
    (hs : ∀ (i : Nat) σ H, i < n → Pv i σ H → g (.int (i : Int)) σ H fun σ2 H2 => tb { D with nx := Pv (i + 1), ct := Pv (i + 1), bk := D.nx } σ2 H2) (hd : ∀ σ H, Pv n σ H → D.nx σ H) : tFor (iRng1 ta) g tb D σ H := by
  subst hj
  refine hta _ ⟨(n : Int), rfl, ?_, ?_, ?_⟩
  · have : (0 : Int) ≤ n := Int.natCast_nonneg n
    omega
  · omega
  · rw [Int.toNat_natCast]
    exact for_range (lo := 0) Pv h0 (fun i σ H hi p => by rw [Int.zero_add]; exact hs i σ H hi p) hd
theorem for_lst {a : Addr} {xs : List V} (htl : ∀ R : VK, R (.ref a) H' → tl σ H R) (hx : SqL K H' a xs) (Pv : Nat → L2.St → Hp → Prop) (h0 : Pv 0 σ H') (hl : ∀ i σ H, i ≤ xs.length → Pv i σ H → SqL K H a xs)
    (hs : ∀ i x σ H, xs[i]? = some x → Pv i σ H → g x σ H fun σ2 H2 => tb { D with nx := Pv (i + 1), ct := Pv (i + 1), bk := D.nx } σ2 H2) (hd : ∀ σ H, Pv xs.length σ H → D.nx σ H) : tFor (iList K tl) g tb D σ H :=
  htl _ ⟨a, rfl, ⟨xs, hx⟩, for_list Pv h0 hl hs hd⟩
theorem if_step {b : Bool} (hc : ∀ R : Bool → Hp → Prop, R b H' → c σ H R) (h1 : b = true → t D σ H') (h2 : b = false → u D σ H') : tIfS c t u D σ H := hc _ (iteB h1 h2)
theorem asg_step {v : V} {i : Nat} (he : ∀ R : VK, R v H' → te σ H R) (h : D.nx (σ.set i (some v)) H') : tAsg te (gName i) D σ H := he _ h
end
end RS
namespace RS
open PySem PySem.Spec PyProof.Rows L2
section
variable {K : PySem.W.Frag} {ta : TA} {te tl : TE} {g : TG} {tb t u : TS} {c : TT} {D : Ends} {σ : L2.St} {H H' : Hp}
theorem asg_ext {v : V} {i : Nat} (he : ∀ R : VK, (∀ H', Same H H' → R v H') → te σ H R) (h : ∀ H', Same H H' → D.nx (σ.set i (some v)) H') : tAsg te (gName i) D σ H := he _ h
theorem if_ext {b : Bool} (hc : ∀ R : Bool → Hp → Prop, (∀ H', Same H H' → R b H') → c σ H R) (h1 : b = true → ∀ H', Same H H' → t D σ H') (h2 : b = false → ∀ H', Same H H' → u D σ H') : tIfS c t u D σ H :=
  hc _ fun H' s => iteB (fun e => h1 e H' s) (fun e => h2 e H' s)
theorem same_new {p : Addr} {o : HO} (h : H p = none) : Same H (upd H p o) := fun b x e => by
  rw [upd_ne (ne_of_none e h)]
  exact e
theorem sizes {n : Nat} (h : n ≤ 100000) : n ≤ sizeLine := Nat.le_trans h (by decide)
theorem sizel {n : Nat} (h : n < 100000) : n < sizeLine := Nat.lt_of_lt_of_le h (by decide)
end
end RS
namespace RS
open PySem PySem.Spec PyProof.Rows L2
/-- an if behind which the ways meet: D is a letter in both -/
theorem if_join {c : TT} {t u : TS} {D : Ends} {σ : L2.St} {H : Hp} {b : Bool} (P : L2.St → Hp → Prop) (hc : ∀ R : Bool → Hp → Prop, (∀ H', Same H H' → R b H') → c σ H R)
    (h1 : b = true → ∀ H', Same H H' → ∀ D' : Ends, D'.rt = D.rt → D'.bk = D.bk → D'.ct = D.ct → (∀ σ' H', P σ' H' → D'.nx σ' H') → t D' σ H')
    (h2 : b = false → ∀ H', Same H H' → ∀ D' : Ends, D'.rt = D.rt → D'.bk = D.bk → D'.ct = D.ct → (∀ σ' H', P σ' H' → D'.nx σ' H') → u D' σ H')
    (rest : ∀ σ' H', P σ' H' → D.nx σ' H') : tIfS c t u D σ H :=
  hc _ fun H' s => iteB (fun e => h1 e H' s D rfl rfl rfl rest) (fun e => h2 e H' s D rfl rfl rfl rest)
end RS
namespace RS
open PySem PySem.Spec PyProof.Rows L2
section
variable {K : PySem.W.Frag} {ta : TA} {te tl : TE} {g : TG} {tb t u : TS} {c : TT} {D : Ends} {σ : L2.St} {H H' : Hp}
/-- what is known of the value and the heap behind it: P -/
theorem asg_any {i : Nat} (P : V → Hp → Prop) (he : ∀ R : VK, (∀ v H', P v H' → R v H') → te σ H R) (h : ∀ v H', P v H' → D.nx (σ.set i (some v)) H') : tAsg te (gName i) D σ H := he _ h
theorem ret_any (P : V → Hp → Prop) (he : ∀ R : VK, (∀ v H', P v H' → R v H') → te σ H R) (h : ∀ v H', P v H' → D.rt v H') : tRet te D σ H := he _ h
theorem drop_any (P : V → Hp → Prop) (he : ∀ R : VK, (∀ v H', P v H' → R v H') → te σ H R) (h : ∀ v H', P v H' → D.nx σ H') : tDrop te D σ H := he _ h
theorem if_any {b : Bool} (P : Hp → Prop) (hc : ∀ R : Bool → Hp → Prop, (∀ H', P H' → R b H') → c σ H R) (h1 : b = true → ∀ H', P H' → t D σ H') (h2 : b = false → ∀ H', P H' → u D σ H') : tIfS c t u D σ H :=
  hc _ fun H' s => iteB (fun e => h1 e H' s) (fun e => h2 e H' s)
theorem for_rng3 {a b c : Int} {n : Nat} (hta : ∀ R : List V → Hp → Prop, R [.int a, .int b, .int c] H' → ta σ H R) (hn : RgC a b c n) (Pv : Nat → L2.St → Hp → Prop) (h0 : Pv 0 σ H')
    (hs : ∀ (i : Nat) σ H, i < n → Pv i σ H → g (.int (a + (i : Int) * c)) σ H fun σ2 H2 => tb { D with nx := Pv (i + 1), ct := Pv (i + 1), bk := D.nx } σ2 H2) (hd : ∀ σ H, Pv n σ H → D.nx σ H) : tFor (iRng3 ta) g tb D σ H :=
  hta _ ⟨a, b, c, n, rfl, hn, for_rangeC Pv h0 hs hd⟩
end
theorem rgc_2 {N : Int} (h1 : 0 < N) (h2 : N ≤ 100000) : RgC 0 N 2 ((N - 1) / 2 + 1).toNat := by
  have e : Builtin.Range.rangeSize 0 N 2 = (N - 1) / 2 + 1 := by
    unfold Builtin.Range.rangeSize
    rw [if_pos (by decide), if_pos h1, Int.sub_zero]
  refine ⟨by decide, by decide, ?_, by rw [e]; omega⟩
  unfold Builtin.Range.small
  rw [e]
  simp only [Builtin.Range.rangeFitsLong, Bool.and_eq_true, Bool.or_eq_true, decide_eq_true_eq, beq_iff_eq, show ((2 : Int) > 0) by decide, if_true]
  omega
theorem rgc_4 {N : Int} (h1 : 0 < N) (h2 : N ≤ 100000) : RgC 0 N 4 ((N - 1) / 4 + 1).toNat := by
  have e : Builtin.Range.rangeSize 0 N 4 = (N - 1) / 4 + 1 := by
    unfold Builtin.Range.rangeSize
    rw [if_pos (by decide), if_pos h1, Int.sub_zero]
  refine ⟨by decide, by decide, ?_, by rw [e]; omega⟩
  unfold Builtin.Range.small
  rw [e]
  simp only [Builtin.Range.rangeFitsLong, Bool.and_eq_true, Bool.or_eq_true, decide_eq_true_eq, beq_iff_eq, show ((4 : Int) > 0) by decide, if_true]
  omega
theorem tyOf_same {H H' : Hp} {x : V} {s : Ty} (h : tyOf H x = some s) (e : Same H H') : tyOf H' x = some s := by
  cases x with
  | ref a =>
    have h' : (H a).bind hoTy = some s := h
    show (H' a).bind hoTy = some s
    cases q : H a with
    | none => rw [q] at h'; cases h'
    | some o => rw [e a o q]; rw [q] at h'; exact h'
  | _ => exact h
theorem tyOf_at {H : Hp} {a : Addr} {o : HO} {s : Ty} (h : H a = some o) (e : hoTy o = some s) : tyOf H (.ref a) = some s := by
  show (H a).bind hoTy = some s
  rw [h]; exact e
end RS
namespace RS
open PySem PySem.Spec PyProof.Rows L2
section
variable {K : PySem.W.Frag} {tl : TE} {g : TG} {tb : TS} {D : Ends} {σ : L2.St} {H H' : Hp}
/-- a for over a list that is made there: what is known of it and the heap is P -/
theorem for_any (P : Addr → List V → Hp → Prop) (htl : ∀ R : VK, (∀ a xs H', P a xs H' → R (.ref a) H') → tl σ H R)
    (hb : ∀ a xs H', P a xs H' → SqL K H' a xs ∧ ∃ Pv : Nat → L2.St → Hp → Prop, Pv 0 σ H' ∧ (∀ i σ H, i ≤ xs.length → Pv i σ H → SqL K H a xs) ∧
      (∀ i x σ H, xs[i]? = some x → Pv i σ H → g x σ H fun σ2 H2 => tb { D with nx := Pv (i + 1), ct := Pv (i + 1), bk := D.nx } σ2 H2) ∧ ∀ σ H, Pv xs.length σ H → D.nx σ H) : tFor (iList K tl) g tb D σ H :=
  htl _ fun a xs H' p => by
    obtain ⟨hx, Pv, h0, hl, hs, hd⟩ := hb a xs H' p
    exact ⟨a, rfl, ⟨xs, hx⟩, for_list Pv h0 hl hs hd⟩
end
end RS
namespace RS
open PySem PySem.Spec PyProof.Rows L2
/-- a while whose test leaves the heap -/
theorem while_step {c : TT} {tb : TS} {D : Ends} {σ : L2.St} {H : Hp} (W : Nat → L2.St → Hp → Prop) (h0 : ∃ m, W m σ H)
    (hs : ∀ m σ H, W m σ H → ∃ b : Bool, (∀ R : Bool → Hp → Prop, R b H → c σ H R) ∧
      (b = true → tb { D with nx := fun σ' H' => ∃ m', m' < m ∧ W m' σ' H', ct := fun σ' H' => ∃ m', m' < m ∧ W m' σ' H', bk := D.nx } σ H) ∧ (b = false → D.nx σ H)) : tWhile c tb D σ H := by
  refine ⟨W, h0, fun m σ H w => ?_⟩
  obtain ⟨b, hc, h1, h2⟩ := hs m σ H w
  exact hc _ (iteB (fun e => ⟨_, fun _ _ z => z, h1 e⟩) h2)
end RS
namespace RS
open PySem PySem.Spec PyProof.Rows L2
/-- for i, x in enumerate(xs): the pair is laid anew -/
theorem for_enum {K : PySem.W.Frag} {ta : TA} {g : TG} {tb : TS} {D : Ends} {σ : L2.St} {H H' : Hp} {a : Addr} {xs : List V} (hta : ∀ R : List V → Hp → Prop, R [.ref a] H' → ta σ H R) (hx : SqL K H' a xs) (Pv : Nat → L2.St → Hp → Prop) (h0 : Pv 0 σ H')
    (hl : ∀ i σ H, Pv i σ H → SqL K H a xs)
    (hs : ∀ i x σ H, xs[i]? = some x → Pv i σ H → ∀ T, H T = none → g (.ref T) σ (upd H T (.tup [.int (i : Nat), x])) fun σ2 H2 => tb { D with nx := Pv (i + 1), ct := Pv (i + 1), bk := D.nx } σ2 H2) (hd : ∀ σ H, Pv xs.length σ H → D.nx σ H) : tFor (iEnum K ta) g tb D σ H := by
  refine hta _ ⟨a, xs, rfl, hx, fun i m σ H => m = xs.length - i ∧ i ≤ xs.length ∧ Pv i σ H, ⟨xs.length, by simp, Nat.zero_le _, h0⟩, ?_⟩
  rintro i m σ H ⟨rfl, hi, p⟩
  have q := hl i σ H p
  by_cases hlt : i < xs.length
  · refine .inr ⟨⟨xs, xs[i], q, by simp [hlt]⟩, Pv (i + 1), fun σ' H' p' => ⟨xs.length - (i + 1), by omega, rfl, hlt, p'⟩, fun v H1 y => ?_⟩
    obtain ⟨T, x, rfl, hT, rfl, hx⟩ := y
    exact hs i x σ H (hx xs q) p T hT
  · have e : i = xs.length := by omega
    subst e
    exact .inl ⟨⟨xs, q, Nat.le_refl _⟩, hd σ H p⟩
end RS
namespace RS
open PySem PySem.Spec PyProof.Rows L2
/-- xs[i] = v -/
theorem set_step {te to ti : TE} {D : Ends} {σ : L2.St} {H H' : Hp} {v : V} {a : Addr} {xs : List V} {z : Int} {j : Nat} (he : ∀ R : VK, R v H' → te σ H R) (ho : ∀ R : VK, R (.ref a) H' → to σ H' R) (hi : ∀ R : VK, R (.int z) H' → ti σ H' R)
    (hx : H' a = some (.lst xs)) (hj : ixN xs.length z = some j) (h : D.nx σ (upd H' a (.lst (xs.set j v)))) : tAsg te (gSub to ti rSetL) D σ H :=
  he _ (ho _ (hi _ ⟨a, xs, z, j, rfl, rfl, hx, hj, h⟩))
theorem var_is {σ : L2.St} {i : Nat} {v : V} (h : σ[i]? = some (some v)) {R : VK} {H : Hp} (r : R v H) : tVar i σ H R := ⟨v, h, r⟩
end RS
namespace RS
open PySem PySem.Spec PyProof.Rows L2
/-- d[k] = v -/
theorem dput_step {td ty tv : TE} {D : Ends} {σ : L2.St} {H H' : Hp} {v : V} {d : Addr} {kvs : List (Key × V)} {k : Key} (hv : ∀ R : VK, R v H' → tv σ H R) (hd : ∀ R : VK, R (.ref d) H' → td σ H' R) (hk : ∀ R : VK, R (kV k) H' → ty σ H' R)
    (hx : H' d = some (.dK kvs)) (hl : kvs.length < sizeLine) (h : D.nx σ (upd H' d (.dK (putK kvs k v)))) : sDPut td ty tv D σ H :=
  hv _ (hd _ (hk _ ⟨d, _, rfl, DPut.k hx hl, h⟩))
end RS
namespace RS
open PySem PySem.Spec PyProof.Rows L2
section
variable {K : PySem.W.Frag} {ta : TA} {te tl : TE} {tt : TT} {vs : List Nat} {σ : L2.St} {H H' : Hp} {Q : VK} {k : Nat}
/-- a comprehension over range(n) that leaves the heap: P by the turn and what is made so far -/
theorem lc_rng1 {j : Int} {n : Nat} (hta : ∀ R : List V → Hp → Prop, R [.int j] H' → ta σ H R) (hj : j = (n : Int)) (hn : n ≤ 100000) (hw : ∀ x, wipe ((wipe σ vs).set k (some x)) vs = wipe σ vs) (P : Nat → List V → Prop) (h0 : P 0 [])
    (hs : ∀ (i : Nat) acc H2, i < n → Same H' H2 → P i acc → ∃ b : Bool, (∀ R : Bool → Hp → Prop, R b H2 → tt ((wipe σ vs).set k (some (.int (i : Int)))) H2 R) ∧
      (b = true → ∃ v, (∀ R : VK, R v H2 → te ((wipe σ vs).set k (some (.int (i : Int)))) H2 R) ∧ P (i + 1) (acc ++ [v])) ∧ (b = false → P (i + 1) acc))
    (hd : ∀ D H3 acc, H' D = none → Same H' H3 → H3 D = some (.lst acc) → P n acc → acc.length ≤ n → Q (.ref D) H3) : tLc (iRng1 ta) (gName k) tt te vs σ H Q := by
  subst hj
  refine hta _ ⟨(n : Int), rfl, ?_, ?_, ?_⟩
  · have : (0 : Int) ≤ n := Int.natCast_nonneg n
    omega
  · omega
  rw [Int.toNat_natCast]
  intro D hD
  refine lc_range (lo := 0) (fun i H2 => Same H' H2 ∧ ∃ acc, H2 D = some (.lst acc) ∧ P i acc ∧ acc.length ≤ i) ⟨same_new hD, [], upd_same, h0, Nat.le_refl _⟩ ?_ ?_
  · rintro i H2 hi ⟨sm, acc, ha, p, hl⟩
    rw [Int.zero_add]
    obtain ⟨b, h1, h2, h3⟩ := hs i acc H2 hi sm p
    refine ⟨hw _, h1 _ ?_⟩
    cases b with
    | true =>
      obtain ⟨v, h4, h5⟩ := h2 rfl
      rw [if_pos rfl]
      refine h4 _ ⟨acc, ha, sizel (by omega), fun b o hb => ?_, _, upd_same, h5, by rw [List.length_append]; simp; omega⟩
      rw [upd_ne (fun z => by rw [z, hD] at hb; cases hb)]; exact sm _ _ hb
    | false =>
      rw [if_neg (by decide)]
      exact ⟨sm, acc, ha, h3 rfl, by omega⟩
  · rintro H2 ⟨sm, acc, ha, p, hl⟩
    exact hd D H2 acc hD sm ha p hl
theorem lc_lst {a : Addr} {xs : List V} (htl : ∀ R : VK, R (.ref a) H' → tl σ H R) (hx : SqL K H' a xs) (hn : xs.length ≤ 90000) (hw : ∀ x, wipe ((wipe σ vs).set k (some x)) vs = wipe σ vs) (P : Nat → List V → Prop) (h0 : P 0 [])
    (hs : ∀ (i : Nat) x acc H2, xs[i]? = some x → Same H' H2 → P i acc → ∃ b : Bool, (∀ R : Bool → Hp → Prop, R b H2 → tt ((wipe σ vs).set k (some x)) H2 R) ∧
      (b = true → ∃ v, (∀ R : VK, R v H2 → te ((wipe σ vs).set k (some x)) H2 R) ∧ P (i + 1) (acc ++ [v])) ∧ (b = false → P (i + 1) acc))
    (hd : ∀ D H3 acc, H' D = none → Same H' H3 → H3 D = some (.lst acc) → P xs.length acc → acc.length ≤ xs.length → Q (.ref D) H3) : tLc (iList K tl) (gName k) tt te vs σ H Q := by
  refine htl _ ⟨a, rfl, ⟨xs, hx⟩, ?_⟩
  intro D hD
  refine lc_list (xs := xs) (fun i H2 => Same H' H2 ∧ ∃ acc, H2 D = some (.lst acc) ∧ P i acc ∧ acc.length ≤ i) ⟨same_new hD, [], upd_same, h0, Nat.le_refl _⟩ (fun i H2 _ p => p.1.seq hx) ?_ ?_
  · rintro i x H2 hi ⟨sm, acc, ha, p, hl⟩
    have hlt := (List.getElem?_eq_some_iff.mp hi).1
    obtain ⟨b, h1, h2, h3⟩ := hs i x acc H2 hi sm p
    refine ⟨hw _, h1 _ ?_⟩
    cases b with
    | true =>
      obtain ⟨v, h4, h5⟩ := h2 rfl
      rw [if_pos rfl]
      refine h4 _ ⟨acc, ha, sizel (by omega), fun b o hb => ?_, _, upd_same, h5, by rw [List.length_append]; simp; omega⟩
      rw [upd_ne (fun z => by rw [z, hD] at hb; cases hb)]; exact sm _ _ hb
    | false =>
      rw [if_neg (by decide)]
      exact ⟨sm, acc, ha, h3 rfl, by omega⟩
  · rintro H2 ⟨sm, acc, ha, p, hl⟩
    exact hd D H2 acc hD sm ha p hl
end
end RS
namespace RS
open PySem PySem.Spec PyProof.Rows L2
theorem for_tp {K : PySem.W.Frag} {tl : TE} {g : TG} {tb : TS} {D : Ends} {σ : L2.St} {H H' : Hp} {a : Addr} {xs : List V} (htl : ∀ R : VK, R (.ref a) H' → tl σ H R) (hx : SqT K H' a xs) (Pv : Nat → L2.St → Hp → Prop) (h0 : Pv 0 σ H') (hl : ∀ i σ H, i ≤ xs.length → Pv i σ H → SqT K H a xs)
    (hs : ∀ i x σ H, xs[i]? = some x → Pv i σ H → g x σ H fun σ2 H2 => tb { D with nx := Pv (i + 1), ct := Pv (i + 1), bk := D.nx } σ2 H2) (hd : ∀ σ H, Pv xs.length σ H → D.nx σ H) : tFor (iTup K tl) g tb D σ H :=
  htl _ ⟨a, rfl, ⟨xs, hx⟩, for_tup Pv h0 hl hs hd⟩
end RS
namespace RS
open PySem PySem.Spec PyProof.Rows L2
theorem seqT_of {K : PySem.W.Frag} {H H' : Hp} {a : Addr} {xs : List V} (e : Same H H') (h : SqT K H a xs) : SqT K H' a xs := by
  rcases h with (h | ⟨o, h⟩) | h
  · exact .inl (.inl (e _ _ h))
  · exact .inl (.inr ⟨o, e _ _ h⟩)
  · exact .inr h
end RS
namespace RS
open PySem PySem.Spec PyProof.Rows L2
theorem gtup2 {K : PySem.W.Frag} {i j : Nat} {p : Addr} {x y : V} {σ : L2.St} {H : Hp} {Q : L2.St → Hp → Prop} (h : H p = some (.tup [x, y])) (q : Q ((σ.set i (some x)).set j (some y)) H) : gTup K 2 (gCons (gName i) (gCons (gName j) gNil)) (.ref p) σ H Q :=
  ⟨p, _, rfl, .inl (.inl h), rfl, ⟨_, _, rfl, ⟨_, _, rfl, rfl, q⟩⟩⟩
end RS
namespace RS
open PySem PySem.Spec PyProof.Rows L2
theorem nxt_seq {a b : TS} {D0 : Ends} {σ : L2.St} {H : Hp} {r : VK} {bk ct : L2.St → Hp → Prop} (h : a { D0 with nx := b D0 } σ H) : tNext { nx := tSeq a b D0, rt := r, bk := bk, ct := ct } σ H := h
end RS
namespace RS
open PySem PySem.Spec PyProof.Rows L2
theorem nx_at {F : L2.St → Hp → Prop} {σ : L2.St} {H : Hp} {r : VK} {bk ct : L2.St → Hp → Prop} (h : F σ H) : Ends.nx { nx := F, rt := r, bk := bk, ct := ct } σ H := h
end RS
namespace RS
open PySem PySem.Spec PyProof.Rows L2
theorem ty_list {K : PySem.W.Frag} {H : Hp} {a : Addr} {xs : List V} (h : SqL K H a xs) : tyV K "list" (.ref a) H := .inl ⟨rfl, xs, h⟩
end RS
namespace RS
open PySem PySem.Spec PyProof.Rows L2
theorem asg_tup2 {K : PySem.W.Frag} {te : TE} {D : Ends} {σ : L2.St} {H : Hp} {i j : Nat} (P : V → V → Hp → Prop) (he : ∀ R : VK, (∀ t u w H', H' t = some (.tup [u, w]) → P u w H' → R (.ref t) H') → te σ H R) (h : ∀ u w H', P u w H' → D.nx ((σ.set i (some u)).set j (some w)) H') :
    tAsg te (gTup K 2 (gCons (gName i) (gCons (gName j) gNil))) D σ H := he _ fun _ _ _ H' e p => gtup2 e (h _ _ H' p)
end RS
namespace RS
open PySem PySem.Spec PyProof.Rows L2
/-- an if behind which the ways meet, its test leaving the heap -/
theorem if_joinE {c : TT} {t u : TS} {D : Ends} {σ : L2.St} {H H' : Hp} {b : Bool} (P : L2.St → Hp → Prop) (hc : ∀ R : Bool → Hp → Prop, R b H' → c σ H R)
    (h1 : b = true → ∀ D' : Ends, D'.rt = D.rt → D'.bk = D.bk → D'.ct = D.ct → (∀ σ' H', P σ' H' → D'.nx σ' H') → t D' σ H')
    (h2 : b = false → ∀ D' : Ends, D'.rt = D.rt → D'.bk = D.bk → D'.ct = D.ct → (∀ σ' H', P σ' H' → D'.nx σ' H') → u D' σ H')
    (rest : ∀ σ' H', P σ' H' → D.nx σ' H') : tIfS c t u D σ H :=
  hc _ (iteB (fun e => h1 e D rfl rfl rfl rest) (fun e => h2 e D rfl rfl rfl rest))
end RS
namespace RS
open PySem PySem.Spec PyProof.Rows L2
/-- for x, y in zip(xs, ys), lists of one length -/
theorem for_zip2 {K : PySem.W.Frag} {ta : TA} {tb : TS} {D : Ends} {σ : L2.St} {H H' : Hp} {i j : Nat} {a b : Addr} {xs ys : List V} (hta : ∀ R : List V → Hp → Prop, R [.ref a, .ref b] H' → ta σ H R) (hx : SqL K H' a xs) (hy : SqL K H' b ys) (hl : xs.length = ys.length) (Pv : Nat → L2.St → Hp → Prop) (h0 : Pv 0 σ H')
    (hq : ∀ i σ H, Pv i σ H → SqL K H a xs ∧ SqL K H b ys) (hs : ∀ k x y σ H, xs[k]? = some x → ys[k]? = some y → Pv k σ H → ∀ H2, Same H H2 → tb { D with nx := Pv (k + 1), ct := Pv (k + 1), bk := D.nx } ((σ.set i (some x)).set j (some y)) H2) (hd : ∀ σ H, Pv xs.length σ H → D.nx σ H) :
    tFor (iZip K ta) (gTup K 2 (gCons (gName i) (gCons (gName j) gNil))) tb D σ H :=
  hta _ ⟨a, b, xs, ys, rfl, hx, hy, RZ.for_zipL hl Pv h0 hq (fun k x y T σ H ex ey p hT => gtup2 upd_same (hs k x y σ H ex ey p _ (same_new hT))) hd⟩
end RS
namespace RS
open PySem PySem.Spec PyProof.Rows L2
theorem asg_lst3 {K : PySem.W.Frag} {te : TE} {D : Ends} {σ : L2.St} {H : Hp} {i j k : Nat} (P : V → V → V → Hp → Prop) (he : ∀ R : VK, (∀ t u w z H', H' t = some (.lst [u, w, z]) → P u w z H' → R (.ref t) H') → te σ H R) (h : ∀ u w z H', P u w z H' → D.nx (((σ.set i (some u)).set j (some w)).set k (some z)) H') :
    tAsg te (gLst K 3 (gCons (gName i) (gCons (gName j) (gCons (gName k) gNil)))) D σ H := he _ fun t _ _ _ H' e p => ⟨t, _, rfl, .inl (.inl e), rfl, ⟨_, _, rfl, ⟨_, _, rfl, ⟨_, _, rfl, rfl, h _ _ _ H' p⟩⟩⟩⟩
end RS
/-! ### a ring of seats as a list -/
namespace RS
open PySem PySem.Spec PyProof.Rows L2
def ov : Option Int → V
  | .none => .non
  | .some g => .int g
theorem ov_non : ov none = .non := rfl
theorem ov_some {g : Int} : ov (some g) = .int g := rfl
theorem ov_inj {a b : Option Int} (h : ov a = ov b) : a = b := by
  cases a <;> cases b <;> simp [ov] at h ⊢
  exact h
def row (n : Nat) (f : Nat → Option Int) : List V := (List.range n).map fun p => ov (f p)
theorem row_len {n : Nat} {f : Nat → Option Int} : (row n f).length = n := by unfold row; rw [List.length_map, List.length_range]
theorem row_get {n : Nat} {f : Nat → Option Int} {p : Nat} (hp : p < n) : (row n f)[p]? = some (ov (f p)) := by
  unfold row; rw [List.getElem?_map, List.getElem?_range hp]; rfl
theorem row_some {n : Nat} {f : Nat → Option Int} {p : Nat} {v : V} (h : (row n f)[p]? = some v) : p < n ∧ v = ov (f p) := by
  have hp : p < n := by
    have := (List.getElem?_eq_some_iff.mp h).1
    rw [row_len] at this; exact this
  rw [row_get hp] at h
  exact ⟨hp, (Option.some.inj h).symm⟩
theorem row_ext {n : Nat} {f f' : Nat → Option Int} (h : ∀ p, p < n → f p = f' p) : row n f = row n f' := by
  unfold row
  exact List.map_congr_left fun p hp => by rw [h p (List.mem_range.mp hp)]
theorem row_inj {n : Nat} {f f' : Nat → Option Int} (h : row n f = row n f') (p : Nat) (hp : p < n) : f p = f' p := by
  have := row_get (f := f) hp
  rw [h, row_get hp] at this
  exact (ov_inj (Option.some.inj this)).symm
theorem row_set {n : Nat} {f : Nat → Option Int} {p : Nat} {v : Option Int} : (row n f).set p (ov v) = row n (Ring.fup f p v) := by
  refine List.ext_getElem? fun q => ?_
  by_cases hq : q < n
  · rw [row_get hq, List.getElem?_set]
    by_cases w : p = q
    · subst w; rw [if_pos rfl, if_pos (by rw [row_len]; exact hq), Ring.fup_same]
    · rw [if_neg w, row_get hq, Ring.fup_ne (fun e => w e.symm)]
  · rw [List.getElem?_eq_none (by rw [List.length_set, row_len]; omega), List.getElem?_eq_none (by rw [row_len]; omega)]
theorem row_none {n : Nat} : (List.replicate n [V.non]).flatten = row n fun _ => none := by
  refine List.ext_getElem? fun q => ?_
  have e : (List.replicate n [V.non]).flatten = List.replicate n V.non := by
    induction n with
    | zero => rfl
    | succ n ih => rw [List.replicate_succ, List.flatten_cons, ih]; rfl
  rw [e]
  by_cases hq : q < n
  · rw [row_get hq, List.getElem?_replicate, if_pos hq]; rfl
  · rw [List.getElem?_eq_none (by rw [List.length_replicate]; omega), List.getElem?_eq_none (by rw [row_len]; omega)]
theorem row_at {n : Nat} {f : Nat → Option Int} {p : Nat} (hp : p < n) : atI (row n f) (p : Int) = some (ov (f p)) := at_of (j := p) rfl (row_get hp)
theorem row_ix {n : Nat} {f : Nat → Option Int} {p : Nat} (hp : p < n) : ixN (row n f).length (p : Int) = some p := by
  rw [row_len]; unfold ixN; rw [if_pos (by omega), if_pos (by omega), Int.toNat_natCast]
/-- a heap but for one list -/
def Off (a : Addr) (H H' : Hp) : Prop := ∀ b o, b ≠ a → H b = some o → H' b = some o
theorem Off.refl {a : Addr} {H : Hp} : Off a H H := fun _ _ _ h => h
theorem Off.trans {a : Addr} {H H1 H2 : Hp} (x : Off a H H1) (y : Off a H1 H2) : Off a H H2 := fun b o hb h => y b o hb (x b o hb h)
theorem Off.same {a : Addr} {H H' : Hp} (x : Same H H') : Off a H H' := fun b o _ h => x b o h
theorem Off.upd {a : Addr} {H : Hp} {o : HO} : Off a H (upd H a o) := fun b o hb h => by rw [upd_ne hb]; exact h
end RS
namespace RS
open PySem PySem.Spec PyProof.Rows L2
theorem upd_id {H : Hp} {a : Addr} {o : HO} (h : H a = some o) : upd H a o = H := by
  funext b
  by_cases e : b = a
  · subst e; rw [upd_same, h]
  · rw [upd_ne e]
theorem row_put {n : Nat} {f : Nat → Option Int} {p : Nat} {g : Int} : (row n f).set p (.int g) = row n (Ring.fup f p (some g)) := row_set (v := some g)
theorem row_open {n : Nat} {f : Nat → Option Int} {p : Nat} : (row n f).set p .non = row n (Ring.fup f p none) := row_set (v := none)
end RS
namespace RS
open PySem PySem.Spec PyProof.Rows L2
theorem in_none {n : Nat} {f : Nat → Option Int} : inV .non (row n f) = true ↔ ∃ e, e < n ∧ f e = none := by
  unfold inV row
  rw [List.any_eq_true]
  constructor
  · rintro ⟨x, hx, e⟩
    obtain ⟨p, hp, rfl⟩ := List.mem_map.mp hx
    refine ⟨p, List.mem_range.mp hp, ?_⟩
    cases h : f p with
    | none => rfl
    | some g => rw [h] at e; cases e
  · rintro ⟨p, hp, e⟩
    exact ⟨_, List.mem_map.mpr ⟨p, List.mem_range.mpr hp, rfl⟩, by rw [e]; rfl⟩
theorem row_flat {n : Nat} {f : Nat → Option Int} : (row n f).all flatV = true := by
  unfold row
  rw [List.all_eq_true]
  intro x hx
  obtain ⟨p, hp, rfl⟩ := List.mem_map.mp hx
  cases f p <;> rfl
theorem some_ints {ns : List Int} {ys : List V} (h : ∀ y ∈ ys, y ∈ ns.map V.int) : ∃ cs : List Int, ys = cs.map V.int := by
  induction ys with
  | nil => exact ⟨[], rfl⟩
  | cons y ys ih =>
    obtain ⟨cs, rfl⟩ := ih fun z hz => h z (List.mem_cons_of_mem _ hz)
    obtain ⟨c, _, rfl⟩ := List.mem_map.mp (h y List.mem_cons_self)
    exact ⟨c :: cs, rfl⟩
theorem in_some {n : Nat} {f : Nat → Option Int} {g : Int} : inV (.int g) (row n f) = true ↔ Ring.Sits n f g := by
  unfold inV row Ring.Sits
  rw [List.any_eq_true]
  constructor
  · rintro ⟨x, hx, e⟩
    obtain ⟨p, hp, rfl⟩ := List.mem_map.mp hx
    refine ⟨p, List.mem_range.mp hp, ?_⟩
    cases h : f p with
    | none => rw [h] at e; cases e
    | some y => rw [h] at e; rw [show y = g from of_decide_eq_true e]
  · rintro ⟨p, hp, e⟩
    exact ⟨_, List.mem_map.mpr ⟨p, List.mem_range.mpr hp, rfl⟩, by rw [e]; exact decide_eq_true rfl⟩
/-- where the look ends -/
theorem loc_ex {n : Nat} {f : Nat → Option Int} {g : Int} (hn : 0 < n) (he : ∃ e, e < n ∧ f e = none) : ∃ p, p < n ∧ Ring.Loc n (hm n) f g p := by
  obtain ⟨e, he, h0⟩ := he
  have hh := hm_lt hn
  have key : ∀ (m p : Nat), p < n → Ring.Car n (hm n) f g p → Ring.far n p e = m → ∃ p, p < n ∧ Ring.Loc n (hm n) f g p := by
    intro m
    induction m with
    | zero =>
      intro p hp c hm0
      have : e = p := Ring.far_zero hp hm0
      subst this
      exact ⟨e, hp, c, fun y hy => by rw [h0] at hy; cases hy⟩
    | succ m ih =>
      intro p hp c hmm
      rcases Ring.loc_or n (hm n) f g p with (h | ⟨y, h, a⟩) | ⟨y, h, a⟩
      · exact ⟨p, hp, c, fun y hy => by rw [h] at hy; cases hy⟩
      · exact ⟨p, hp, c, fun y' hy => by rw [h] at hy; cases hy; exact a⟩
      · have hpe : p ≠ e := fun z => by rw [z, h0] at h; cases h
        exact ih _ (Ring.nx_lt hp) (Ring.car_nx hh hp c h a) (by have := Ring.far_to hp he hpe; omega)
  exact key _ _ (hh g) Ring.car_home rfl
end RS
/-! ### == of lists and tuples of flat things -/
namespace RS
open PySem PySem.Spec PyProof.Rows L2
def datV : V → PyData
  | .bl b => .bool b | .int i => .int i | _ => .none
/-- none, truths, whole numbers -/
def flD : V → Bool
  | .non => true | .bl _ => true | .int _ => true | _ => false
theorem dp_flat {K : PySem.W.Frag} {H : Hp} : ∀ v : V, flD v = true → Dp K H v (datV v) := by
  intro v h
  cases v with
  | non => exact .non
  | bl b => exact .bl b
  | int i => exact .int i
  | _ => cases h
theorem dp_all {K : PySem.W.Frag} {H : Hp} : ∀ xs : List V, xs.all flD = true → DpAll K H xs (xs.map datV)
  | [], _ => .nil
  | x :: xs, h => by
    rw [List.all_cons, Bool.and_eq_true] at h
    exact .cons (dp_flat x h.1) (dp_all xs h.2)
theorem row_flD {n : Nat} {f : Nat → Option Int} : (row n f).all flD = true := by
  unfold row
  rw [List.all_eq_true]
  intro x hx
  obtain ⟨p, hp, rfl⟩ := List.mem_map.mp hx
  cases f p <;> rfl
theorem lay_all : ∀ xs : List V, PyData.canLayAll0 (xs.map datV) = true ∧ PyData.depthAll (xs.map datV) = 0
  | [] => ⟨rfl, rfl⟩
  | x :: xs => by
    obtain ⟨h1, h2⟩ := lay_all xs
    rw [List.map_cons, PyData.canLayAll0, PyData.depthAll, h1, h2]
    cases x <;> exact ⟨by simp [datV, PyData.canLay0], by simp [datV, PyData.depth]⟩
theorem shp_lst (xs : List V) : SeqAt.shaped (.list (xs.map datV)) = true := by
  obtain ⟨h1, h2⟩ := lay_all xs
  unfold SeqAt.shaped
  rw [PyData.canLay0, PyData.depth, h1, h2]; rfl
theorem shp_tup (xs : List V) : SeqAt.shaped (.tuple (xs.map datV)) = true := by
  obtain ⟨h1, h2⟩ := lay_all xs
  unfold SeqAt.shaped
  rw [PyData.canLay0, PyData.depth, h1, h2]; rfl
section
variable {K : PySem.W.Frag} {H : Hp} {a b : Addr} {xs : List V} {R : VK}
theorem eqD_lst (hx : SqL K H a xs) (hy : SqL K H b xs) (hf : xs.all flD = true) (r : R (.bl true) H) : rEqD K (.ref a) (.ref b) H R := by
  refine ⟨_, _, .lst hx (dp_all xs hf), .lst hy (dp_all xs hf), shp_lst xs, shp_lst xs, ?_⟩
  rw [SeqAt.eqv_refl _ (SeqAt.canLay_of_shaped (shp_lst xs))]; exact r
theorem neD_lst (hx : SqL K H a xs) (hy : SqL K H b xs) (hf : xs.all flD = true) (r : R (.bl false) H) : rNeD K (.ref a) (.ref b) H R := by
  refine ⟨_, _, .lst hx (dp_all xs hf), .lst hy (dp_all xs hf), shp_lst xs, shp_lst xs, ?_⟩
  rw [SeqAt.eqv_refl _ (SeqAt.canLay_of_shaped (shp_lst xs))]; exact r
theorem eqD_tup (hx : SqT K H a xs) (hy : SqT K H b xs) (hf : xs.all flD = true) (r : R (.bl true) H) : rEqD K (.ref a) (.ref b) H R := by
  refine ⟨_, _, .tup hx (dp_all xs hf), .tup hy (dp_all xs hf), shp_tup xs, shp_tup xs, ?_⟩
  rw [SeqAt.eqv_refl _ (SeqAt.canLay_of_shaped (shp_tup xs))]; exact r
theorem neD_tup (hx : SqT K H a xs) (hy : SqT K H b xs) (hf : xs.all flD = true) (r : R (.bl false) H) : rNeD K (.ref a) (.ref b) H R := by
  refine ⟨_, _, .tup hx (dp_all xs hf), .tup hy (dp_all xs hf), shp_tup xs, shp_tup xs, ?_⟩
  rw [SeqAt.eqv_refl _ (SeqAt.canLay_of_shaped (shp_tup xs))]; exact r
theorem eqD_nil {x : V} (hx : SqL K H a (x :: xs)) (hy : SqL K H b []) (hf : (x :: xs).all flD = true) (r : R (.bl false) H) : rEqD K (.ref a) (.ref b) H R := by
  refine ⟨_, _, .lst hx (dp_all _ hf), .lst hy .nil, shp_lst _, shp_lst [], ?_⟩
  rw [show PyData.eqv (.list ((x :: xs).map datV)) (.list []) = false by simp [PyData.eqv, PyData.eqvAll]]; exact r
end
end RS
/-! ### xs[lo:hi:k]: a new list of some of its items -/
namespace RS
open PySem PySem.Spec PyProof.Rows L2
theorem vals_pick {xs : List V} {its : List Value} (r : Vals xs its) : ∀ idx : List Nat, Vals (idx.filterMap (xs[·]?)) (idx.filterMap (its[·]?))
  | [] => .nil
  | i :: idx => by
    cases e : xs[i]? with
    | none =>
      have e2 : its[i]? = none := by
        rw [List.getElem?_eq_none_iff] at e ⊢
        rw [← r.length]; exact e
      rw [List.filterMap_cons_none e, List.filterMap_cons_none e2]
      exact vals_pick r idx
    | some x =>
      obtain ⟨u, e2, rx⟩ := r.get e
      rw [List.filterMap_cons_some e, List.filterMap_cons_some e2]
      exact .cons rx (vals_pick r idx)
def tStepL (K : PySem.W.Frag) (te : TE) (tl th ts : TO) : TE := fun σ H Q => te σ H fun x H1 => tl σ H1 fun _ H2 => th σ H2 fun _ H3 => ts σ H3 fun k H4 => ∃ a xs, x = .ref a ∧ SqL K H4 a xs ∧ k ≠ some 0 ∧
  ∀ p, H4 p = none → ∀ ys : List V, (∀ y ∈ ys, y ∈ xs) → ys.length ≤ xs.length → Q (.ref p) (upd H4 p (.lst ys))
section
variable {X : Cx} {e : Expr} {te : TE} {lo hi : Option Expr} {st : Expr} {tl th ts : TO} {pos p2 : Pos}
theorem pe_stepL (he : PE X e te) (hl : PO X lo tl) (hu : PO X hi th) (hk : PO X (some st) ts) : PE X (.Subscript e (.Slice lo hi (some st) p2) pos) (tStepL X.K te tl th ts) := by
  refine ⟨fun pins s σ H Q I h => ?_⟩
  refine Subscript_ (thn (he.run pins s σ H _ I h) fun v s1 ⟨x, H1, I1, r1, q1⟩ => ?_)
  refine wpAny_Slice (thn (hl.run pins s1 σ H1 _ I1 q1) fun vl s2 ⟨l, H2, I2, pl, q2⟩ => thn (hu.run pins s2 σ H2 _ I2 q2) fun vu s3 ⟨u, H3, I3, pu, q3⟩ => thn (hk.run pins s3 σ H3 _ I3 q3) fun vk s4 ⟨k, H4, I4, pk, q4⟩ => ?_)
  obtain ⟨a, xs, rfl, hx, hk0, q⟩ := q4
  cases r1
  have I5 : Inv X pins σ H4 { s4 with heap := s4.heap.push { cls := .type "slice", data := .fields #[vl, vu, vk] } } := I4.kept (t' := s4.toks) fun b ob q => Heap.get?_push_of_some _ q
  obtain ⟨its, r, ht, hz⟩ := I5.list hx
  show wpAny (model X.prog X.w) X.A (subscriptTail e (.Slice lo hi (some st) p2) (.ref a) (.ref s4.heap.objs.size)) (EP X pins σ Q) X.xe { s4 with heap := s4.heap.push { cls := .type "slice", data := .fields #[vl, vu, vk] } }
  refine tail_any (ops := [.ref a, .ref s4.heap.objs.size]) ht.isList.typeIs slot_list_getitem.lookup ?_ (by with_unfolding_all rfl)
  refine wpAny_getItem_list_slice ht.isList (Heap.IsSliceOf.new ..) pl pu pk hk0 ?_ (by rw [List.size_toArray, ← r.length]; exact hz)
  have hv := vals_pick r (sliceRange (sliceBounds l u k its.toArray.size).1 (sliceBounds l u k its.toArray.size).2.1 (sliceBounds l u k its.toArray.size).2.2)
  have hsl := slicePick_size_le its.toArray l u k
  have he : (slicePick its.toArray l u k).toList = (sliceRange (sliceBounds l u k its.toArray.size).1 (sliceBounds l u k its.toArray.size).2.1 (sliceBounds l u k its.toArray.size).2.2).filterMap (its[·]?) := by
    unfold slicePick
    simp
  rw [← he] at hv
  have hlen := hv.length
  rw [← Array.length_toList, List.size_toArray, ← r.length] at hsl
  refine ⟨.ref _, _, I5.laid (t' := s4.toks) (o := .lst _) (fun b ob q => Heap.get?_push_of_some _ q) (Nat.le_refl _) ⟨by rw [hlen]; exact Nat.le_trans hsl hz, _, 0, hv, Heap.get?_push_size _ rfl⟩, rfl, q _ (I5.hok.fresh (Nat.le_refl _)) _ (fun y hy => ?_) (by rw [hlen]; exact hsl)⟩
  obtain ⟨i, _, e⟩ := List.mem_filterMap.mp hy
  exact List.mem_of_getElem? e
end
/-! ### list.count, flat items -/
def rCount (K : PySem.W.Frag) : V → List V → Hp → VK → Prop := fun x xs H Q => ∃ (a : Addr) (ys : List V) (y : V), x = V.ref a ∧ xs = [y] ∧ SqL K H a ys ∧ flatV y = true ∧ ys.all flatV = true ∧ Q (.int ((ys.countP fun z => eqV z y : Nat) : Int)) H
theorem count_rel {y : V} : ∀ {ys : List V} {its : List Value}, Vals ys its → ys.all flatV = true → its.countP (eqU y) = ys.countP fun z => eqV z y
  | [], _, r, _ => by cases r; rfl
  | z :: ys, _, r, f => by
    cases r with
    | cons r1 r2 =>
      rw [List.all_cons, Bool.and_eq_true] at f
      rw [List.countP_cons, List.countP_cons, count_rel r2 f.2, eqU_of r1 f.1]
theorem mt_countL {X : Cx} : MtR X "list.count" (rCount X.K) := by
  intro pins s σ H x xs v us Q I rx rxs h
  obtain ⟨a, ys, y, rfl, rfl, hs, fy, fys, q⟩ := h
  cases rx
  cases rxs with
  | cons ry rt =>
    rename_i uy ut
    cases rt
    obtain ⟨its, rv, ⟨⟨cls, dd, data, sl⟩, n, ho, hc, hdn, hd⟩, hlen⟩ := I.list hs
    simp only at hc hd
    subst hc hd
    refine call_meets PySem.F.slot_list_count ⟨_, ho, rfl⟩ PySem.F.entry_list_count (PySem.F.args_list_count_2 _ _)
      (SeqAt.list_countAt a its.toArray n dd sl uy (eqU y)) ⟨ho, fun u' hu' => mem_eqAt ry fy rv fys u' (by simpa using hu'), ?_⟩
    refine ⟨.int ((ys.countP fun z => eqV z y : Nat) : Int), H, I.tok _, ⟨s.toks, ?_⟩, q⟩
    rw [← count_rel rv fys]
end RS
/-! ### xs != ys, lists of the very same things -/
namespace RS
open PySem PySem.Spec PyProof.Rows L2
def okV : V → Bool
  | .ref _ => true
  | v => flatB v
def rNeS (K : PySem.W.Frag) : R2 := fun x y H Q => ∃ a b xs, x = .ref a ∧ y = .ref b ∧ SqL K H a xs ∧ SqL K H b xs ∧ xs.all okV = true ∧ Q (.bl false) H
theorem okV_same {A : Around} {s : Shared} : ∀ {xs : List V} {us ws : List Value}, Vals xs us → Vals xs ws → xs.all okV = true → ∀ j (h1 : j < us.length) (h2 : j < ws.length), SeqAt.EqAt A s us[j] ws[j] true
  | [], _, _, r1, r2, _ => by
    intro j h1
    cases r1
    exact absurd h1 (Nat.not_lt_zero j)
  | x :: xs, _, _, r1, r2, f => by
    rw [List.all_cons, Bool.and_eq_true] at f
    cases r1 with
    | cons a1 b1 =>
      cases r2 with
      | cons a2 b2 =>
        intro j h1 h2
        cases j with
        | zero =>
          show SeqAt.EqAt A s _ _ true
          cases x with
          | ref p =>
            cases a1; cases a2
            exact SeqAt.EqAt.same _
          | _ => exact eqAt_same a1 a2 f.1
        | succ j => exact okV_same b1 b2 f.2 j (Nat.lt_of_succ_lt_succ h1) (Nat.lt_of_succ_lt_succ h2)
theorem op_neS {X : Cx} (hu : X.A.units + 64 < cLine) : OpR X (compareOp .NotEq) (rNeS X.K) := by
  intro pins s σ H x y v u Q I rx ry h
  obtain ⟨a, b, xs, rfl, rfl, ha, hb, f, q⟩ := h
  cases (show v = Value.ref a from rx)
  cases (show u = Value.ref b from ry)
  obtain ⟨us, r1, p1, _⟩ := I.list ha
  obtain ⟨ws, r2, p2, _⟩ := I.list hb
  have hsz : us.toArray.size = ws.toArray.size := by
    rw [List.size_toArray, List.size_toArray, ← r1.length, ← r2.length]
  have key := SeqAt.RcNeAt.lists (A := X.A) (e := fun _ => true) p1.isList p2.isList hsz (by omega) (fun j h1 h2 => by
    have := okV_same (A := X.A.in1) (s := s) r1 r2 f j (by simpa using h1) (by simpa using h2)
    simpa using this)
  rw [show ((List.range us.toArray.size).all fun _ => true) = true from List.all_eq_true.mpr fun _ _ => rfl] at key
  exact key _ _ _ _ ⟨.bl false, H, I, rfl, q⟩
/-! ### len(set(xs)), ints -/
def dist (ns : List Int) : List Int := PyProof.Rows.firstMet (fun i => ns.getD i 0) ns.length
theorem dist_nodup {ns : List Int} (h : ns.Nodup) : dist ns = ns := by
  unfold dist
  rw [RZ.firstMet_nodup h ns.length (Nat.le_refl _), List.take_length]
theorem firstMet_has {val : Nat → Int} : ∀ {i j : Nat}, j < i → val j ∈ PyProof.Rows.firstMet val i
  | 0, _, h => absurd h (Nat.not_lt_zero _)
  | i + 1, j, h => by
    rw [PyProof.Rows.firstMet_succ]
    unfold PyProof.Rows.step_dedup
    by_cases e : j = i
    · subst e
      split
      · rename_i hb
        obtain ⟨y, hy, ey⟩ := List.any_eq_true.mp hb
        rw [← show y = val j from eq_of_beq ey]; exact hy
      · simp
    · have := firstMet_has (val := val) (i := i) (j := j) (by omega)
      split
      · exact this
      · exact List.mem_append_left _ this
theorem dist_short {ns : List Int} (h : ¬ ns.Nodup) : (dist ns).length < ns.length := by
  have : ∃ i j, j < i ∧ i < ns.length ∧ ns.getD j 0 = ns.getD i 0 := by
    apply Classical.byContradiction
    intro no
    apply h
    refine List.pairwise_iff_getElem.mpr fun j i hj hi hji e => no ⟨i, j, hji, hi, ?_⟩
    rw [List.getD_eq_getElem?_getD, List.getElem?_eq_getElem hj, List.getD_eq_getElem?_getD, List.getElem?_eq_getElem hi]
    exact e
  obtain ⟨i, j, hji, hi, e⟩ := this
  have step : (PyProof.Rows.firstMet (fun k => ns.getD k 0) (i + 1)).length ≤ i := by
    rw [PyProof.Rows.firstMet_succ]
    unfold PyProof.Rows.step_dedup
    rw [if_pos (List.any_eq_true.mpr ⟨ns.getD j 0, firstMet_has (val := fun k => ns.getD k 0) hji, by rw [e]; exact beq_self_eq_true _⟩)]
    exact PyProof.Rows.firstMet_length_le _ _
  have grow : ∀ k, (PyProof.Rows.firstMet (fun k => ns.getD k 0) (i + 1 + k)).length ≤ i + k := by
    intro k
    induction k with
    | zero => exact step
    | succ k ih =>
      rw [show i + 1 + (k + 1) = (i + 1 + k) + 1 by omega, PyProof.Rows.firstMet_succ]
      unfold PyProof.Rows.step_dedup
      split
      · omega
      · rw [List.length_append, List.length_singleton]; omega
  have := grow (ns.length - (i + 1))
  unfold dist
  rw [show i + 1 + (ns.length - (i + 1)) = ns.length by omega] at this
  omega
def tLenSet (K : PySem.W.Frag) (ta : TE) : TE := fun σ H Q => ta σ H fun x H1 => ∃ (l : Addr) (ns : List Int), x = .ref l ∧ SqL K H1 l (ns.map V.int) ∧ ns.length ≤ 4000 ∧ Q (.int ((dist ns).length : Nat)) H1
theorem pe_lenSet {X : Cx} {a : Expr} {ta : TE} {p p2 q pos : Pos} (hm : X.mg "len" = none) (hm2 : X.mg "set" = none) (ha : PE X a ta) (hg : Gl X "len" := by rfl) (hg2 : Gl X "set" := by rfl) (hc : X.calm = true := by rfl)
    (na : starEach [a] X.env = (false, eval a X.env) :: starEach [] X.env := by rfl) : PE X (.Call (.Name "len" p) [.Call (.Name "set" p2) [a] [] q] [] pos) (tLenSet X.K ta) := by
  refine ⟨fun pins s σ H Q I h => ?_⟩
  refine Call_ (ld_blt I hg hm boot_len ?_)
  refine PyProof.Rows.callWith_builtin1 (PyProof.Rows.args_cons ?_ rfl) rfl rfl
  refine Call_ (ld_blt I hg2 hm2 boot_set ?_)
  refine PyProof.Rows.callWith_type1 (PyProof.Rows.args_cons (thn (ha.run pins s σ H _ I h) fun v s1 ⟨x, H1, I1, r1, q1⟩ => PyProof.Rows.args_nil ?_) na) na rfl
  obtain ⟨l, ns, rfl, hq, hl, q1⟩ := q1
  cases r1
  obtain ⟨its, r, pl, hz⟩ := I1.list hq
  have hlen : its.toArray.size = ns.length := by rw [List.size_toArray, ← r.length, List.length_map]
  refine call_set_list (I1.ok.hd hc) pl.isList (by simpa using RZ.intsAre_vals r) (by rw [hlen]; unfold scanBound; omega) fun h' tk hS hk => ?_
  refine PyProof.Rows.args_nil ?_
  rw [hlen] at hS
  obtain ⟨o, es, ep, t, ho, hex, hd, _, _, _, hf, hn⟩ := hS
  have I2 : Inv X pins σ H1 { s1 with heap := h', toks := tk } := I1.kept fun b o e => hk b o (Heap.lt_size e) e
  have hle := PyProof.Rows.firstMet_length_le (fun i => ns.getD i 0) ns.length
  exact call_len_set ho hex hd hf (by rw [hn] <;> omega) ⟨.int (dist ns).length, H1, I2.tok _, ⟨_, by rw [hn]; rfl⟩, q1⟩
end RS
namespace RS
open PySem PySem.Spec PyProof.Rows L2
abbrev rInsert : V → List V → Hp → VK → Prop := fun x vs H Q => ∃ (l : Addr) (xs : List V) (i : Int) (y : V), x = .ref l ∧ vs = [.int i, y] ∧ H l = some (.lst xs) ∧ xs.length < sizeLine ∧ 0 ≤ i ∧ i < 2 ^ 63 ∧
  Q .non (upd H l (.lst (xs.take i.toNat ++ [y] ++ xs.drop i.toNat)))
theorem map_erase : ∀ (r : List Int) (i : Nat), (r.map V.int).eraseIdx i = (r.eraseIdx i).map V.int
  | [], _ => rfl
  | _ :: _, 0 => rfl
  | x :: r, i + 1 => by
    show V.int x :: (r.map V.int).eraseIdx i = _
    rw [map_erase r i]; rfl
theorem erase_perm : ∀ (r : List Int) (i : Nat) (h : i < r.length), (r[i] :: r.eraseIdx i).Perm r
  | [], _, h => absurd h (Nat.not_lt_zero _)
  | _ :: _, 0, _ => List.Perm.refl _
  | x :: r, i + 1, h => (List.Perm.swap x _ _).trans ((erase_perm r i (Nat.lt_of_succ_lt_succ h)).cons x)
end RS
/-! ### the program's refusals: five classes over RingError -/
namespace RS
open PySem PySem.Spec PyProof.Rows L2
inductive Ek where
  | noGuest | noSize | twice | away | full
  deriving DecidableEq
def Cs.of (C : Cs) : Ek → Addr
  | .noGuest => C.cNoGuest | .noSize => C.cNoSize | .twice => C.cTwice | .away => C.cAway | .full => C.cFull
abbrev bmV : List Value := [.type "ValueError", .type "Exception", .type "BaseException", .type "object"]
/-- what the kit asks of a class of refusals -/
structure ExF (K : PySem.W.Frag) (c : Addr) : Prop where
  q : PySem.W.excIn K c bmV "ValueError.__new__" = true
  k : PySem.W.keepIn K (.ref c) = true
  b : PySem.W.subIn K (.ref c) (.type "BaseException") = some true
  t : PySem.W.typeIn K (.ref c) = some (.type "type")
  e : ExcC K c
structure Facts (K : PySem.W.Frag) (C : Cs) : Prop where
  ex : ∀ x, ExF K (C.of x)
  exm : ∀ x, PySem.W.exmOne K (.ref (C.of x)) (.ref C.cRingError) = some true
  kit : ∀ x y, PySem.W.kitOne K (.ref (C.of x)) (.ref (C.of y)) = some (decide (x = y))
  val : ∀ x, PySem.W.kitOne K (.ref (C.of x)) (.type "ValueError") = some true
structure Top (K : PySem.W.Frag) (mg : Str → Option Value) (C : Cs) : Prop where
  f : Facts K C
  gRingError : mg "RingError" = some (.ref C.cRingError)
  gNoGuest : mg "NoGuest" = some (.ref C.cNoGuest)
  gNoSize : mg "NoSize" = some (.ref C.cNoSize)
  gTwice : mg "Twice" = some (.ref C.cTwice)
  gAway : mg "Away" = some (.ref C.cAway)
  gFull : mg "Full" = some (.ref C.cFull)
/-- isinstance(e, one of the five), e the refusal that the suite holds -/
def tIsE (C : Cs) (cls : Value) (d : Option Addr) (a : Addr) (te : TE) (y : Ek) : TE := fun σ H Q => te σ H fun v H1 => v = .ref a ∧ ∃ x : Ek, cls = .ref (C.of x) ∧ d = none ∧ Q (.bl (decide (x = y))) H1
def tIsVal (C : Cs) (cls : Value) (d : Option Addr) (a : Addr) (te : TE) : TE := fun σ H Q => te σ H fun v H1 => v = .ref a ∧ ∃ x : Ek, cls = .ref (C.of x) ∧ d = none ∧ Q (.bl true) H1
def rIsX (C : Cs) (cls : Value) (d : Option Addr) (a : Addr) : List V → Hp → VK → Prop := fun xs H Q => ∃ x : Ek, cls = .ref (C.of x) ∧ d = none ∧
  ((∃ y : Ek, xs = [.ref a, .ref (C.of y)] ∧ Q (.bl (decide (x = y))) H) ∨ (xs = [.ref a, .ty "ValueError"] ∧ Q (.bl true) H))
theorem call_isX {X : Cx} {C : Cs} {a : Addr} {cls : Value} {d : Option Addr} {oe : Obj} {pn : List (Addr × Obj)} (F : Facts X.K C) (hz : Zc cls d oe) (hf : ∃ vs, oe.data = .fields vs) : CallR (X.suite a ((a, oe) :: pn)) (.builtin "isinstance") (rIsX C cls d a) := by
  intro pins s σ H xs us Q I r h
  obtain ⟨x, rfl, rfl, h⟩ := h
  rcases h with ⟨y, rfl, q⟩ | ⟨rfl, q⟩
  · exact call_isE (F.ex x).e hz hf pins s σ H _ us Q I r ⟨.ref (C.of y), .ref (C.of y), _, rfl, fun u h => h, F.kit x y, q⟩
  · exact call_isE (F.ex x).e hz hf pins s σ H _ us Q I r ⟨.ty "ValueError", .type "ValueError", _, rfl, fun u h => h, F.val x, q⟩
/-- try: .. except RingError as e: .. -/
def tTryAs (K : PySem.W.Frag) (C : Cs) (i : Nat) (tb : WX → TS) (ts : Addr → Value → Option Addr → TS) (W : WX) : TS := fun D σ H => tb (wAs K (.ref C.cRingError) i ts W D) D σ H
abbrev W0 : WX := fun _ _ _ _ => False
section
variable {X : Cx} {CX : CXT} {k : Nat} {ps : List Str} {sp : Sp} {E : L2.St → XK} {x : Str} {p pos : Pos} {e : Expr} {es : List Expr} {t : TA}
theorem pe_fnS (c : Cal X.prog X.w X.K X.mg X.base CX k x ps sp) (hr : Room k X.A) (hx : ∀ σ, PassesAt CX X σ (E σ)) (ha : PA X (e :: es) t) (hg : Gl X x := by rfl) (hdb : (x == ("__debug__" : Str)) = false := by decide)
    (he : starEach (e :: es) X.env = (false, eval e X.env) :: starEach es X.env := by rfl) (hpl : (backTo pos (starEach es X.env)).any (·.1) = false := by rfl) :
    PE X (.Call (.Name x p) (e :: es) [] pos) (tCallS sp E t) := by
  obtain ⟨f, fd, G, hm, hk, hb⟩ := c.ex
  exact pe_callS G hr hg hm hk hb hx ha hdb he hpl
end
end RS
namespace RS
open PySem PySem.Spec PyProof.Rows L2
/-- what is looked up of a class of refusals, at a; r is RingError -/
structure ClsF (K : PySem.W.Frag) (a r : Addr) : Prop where
  q : PySem.W.excIn K a bmV "ValueError.__new__" = true
  k : PySem.W.keepIn K (.ref a) = true
  b : PySem.W.subIn K (.ref a) (.type "BaseException") = some true
  t : PySem.W.typeIn K (.ref a) = some (.type "type")
  g : PySem.W.findIn K (.ref a) "__getattribute__" = some (some (.builtin "BaseException.__getattribute__"))
  n : PySem.W.findIn K (.ref a) "__getattr__" = some none
  d : PySem.W.hasDictIn K a = true
  c : PySem.W.findIn K (.ref a) "__class__" = some (some (.builtin "object.__class__"))
  m : PySem.W.mroIn K a (.type "object") = some true
  v : PySem.W.subIn K (.ref a) (.type "ValueError") = some true
  r : PySem.W.subIn K (.ref a) (.ref r) = some true
  s : PySem.W.subIn K (.ref a) (.ref a) = some true
theorem kit_val {K : PySem.W.Frag} {a r : Addr} (F : ClsF K a r) : PySem.W.kitOne K (.ref a) (.type "ValueError") = some true := by
  unfold PySem.W.kitOne
  rw [if_neg (by simp)]
  show (if PySem.W.kitMeta "ValueError" = true then _ else none) = _
  rw [if_pos (by decide)]
  exact F.v
theorem kit_ref {K : PySem.W.Frag} {a b r : Addr} (F : ClsF K a r) (G : ClsF K b r) {v : Bool} (h : PySem.W.subIn K (.ref a) (.ref b) = some v) : PySem.W.kitOne K (.ref a) (.ref b) = some v := by
  unfold PySem.W.kitOne
  by_cases e : a = b
  · subst e
    rw [F.s] at h; cases h
    rw [if_pos (by simp)]
  · rw [if_neg (by simpa using e)]
    show (if ((PySem.W.clsIn K b).isSome && PySem.W.typeIn K (.ref b) == some (.type "type")) = true then PySem.W.subIn K (.ref a) (.ref b) else none) = some v
    obtain ⟨cd, hc, _⟩ := PySem.W.any_some G.d
    rw [if_pos (by rw [hc, G.t]; rfl)]
    exact h
theorem top_mk {K : PySem.W.Frag} {h : Heap} {mg : Str → Option Value} {aR a1 a2 a3 a4 a5 aH : Addr} (X : K.In h) (G : h.Ns mainGlobals mg)
    (nR : PySem.W.nsIn K mainGlobals "RingError" = some (some (.ref aR))) (n1 : PySem.W.nsIn K mainGlobals "NoGuest" = some (some (.ref a1))) (n2 : PySem.W.nsIn K mainGlobals "NoSize" = some (some (.ref a2)))
    (n3 : PySem.W.nsIn K mainGlobals "Twice" = some (some (.ref a3))) (n4 : PySem.W.nsIn K mainGlobals "Away" = some (some (.ref a4))) (n5 : PySem.W.nsIn K mainGlobals "Full" = some (some (.ref a5)))
    (F1 : ClsF K a1 aR) (F2 : ClsF K a2 aR) (F3 : ClsF K a3 aR) (F4 : ClsF K a4 aR) (F5 : ClsF K a5 aR)
    (Rb : PySem.W.subIn K (.ref aR) (.type "BaseException") = some true) (Rd : PySem.W.hasDictIn K aR = true) (Rt : PySem.W.typeIn K (.ref aR) = some (.type "type"))
    (hn : PySem.W.specialIn K (.builtin "object.__class__") "__get__" = some (some (.builtin "getset_descriptor.__get__"))) (ht : PySem.W.takesIn K (.builtin "object.__class__") = some true)
    (s12 : PySem.W.subIn K (.ref a1) (.ref a2) = some false) (s13 : PySem.W.subIn K (.ref a1) (.ref a3) = some false) (s14 : PySem.W.subIn K (.ref a1) (.ref a4) = some false) (s15 : PySem.W.subIn K (.ref a1) (.ref a5) = some false)
    (s21 : PySem.W.subIn K (.ref a2) (.ref a1) = some false) (s23 : PySem.W.subIn K (.ref a2) (.ref a3) = some false) (s24 : PySem.W.subIn K (.ref a2) (.ref a4) = some false) (s25 : PySem.W.subIn K (.ref a2) (.ref a5) = some false)
    (s31 : PySem.W.subIn K (.ref a3) (.ref a1) = some false) (s32 : PySem.W.subIn K (.ref a3) (.ref a2) = some false) (s34 : PySem.W.subIn K (.ref a3) (.ref a4) = some false) (s35 : PySem.W.subIn K (.ref a3) (.ref a5) = some false)
    (s41 : PySem.W.subIn K (.ref a4) (.ref a1) = some false) (s42 : PySem.W.subIn K (.ref a4) (.ref a2) = some false) (s43 : PySem.W.subIn K (.ref a4) (.ref a3) = some false) (s45 : PySem.W.subIn K (.ref a4) (.ref a5) = some false)
    (s51 : PySem.W.subIn K (.ref a5) (.ref a1) = some false) (s52 : PySem.W.subIn K (.ref a5) (.ref a2) = some false) (s53 : PySem.W.subIn K (.ref a5) (.ref a3) = some false) (s54 : PySem.W.subIn K (.ref a5) (.ref a4) = some false) :
    Top K mg ⟨aR, a1, a2, a3, a4, a5, aH⟩ := by
  have ex : ∀ a, ClsF K a aR → ExF K a := fun a F => ⟨F.q, F.k, F.b, F.t, ⟨F.g, F.n, F.b, F.d, F.c, hn, ht, F.m⟩⟩
  have em : ∀ a, ClsF K a aR → PySem.W.exmOne K (.ref a) (.ref aR) = some true := fun a F => PySem.W.exm_ref Rb Rd Rt F.r
  refine ⟨⟨?_, ?_, ?_, ?_⟩, PySem.W.mg_of X G nR, PySem.W.mg_of X G n1, PySem.W.mg_of X G n2, PySem.W.mg_of X G n3, PySem.W.mg_of X G n4, PySem.W.mg_of X G n5⟩
  · intro x; cases x
    · exact ex _ F1
    · exact ex _ F2
    · exact ex _ F3
    · exact ex _ F4
    · exact ex _ F5
  · intro x; cases x
    · exact em _ F1
    · exact em _ F2
    · exact em _ F3
    · exact em _ F4
    · exact em _ F5
  · intro x y
    cases x <;> cases y
    · exact kit_ref F1 F1 F1.s
    · exact kit_ref F1 F2 s12
    · exact kit_ref F1 F3 s13
    · exact kit_ref F1 F4 s14
    · exact kit_ref F1 F5 s15
    · exact kit_ref F2 F1 s21
    · exact kit_ref F2 F2 F2.s
    · exact kit_ref F2 F3 s23
    · exact kit_ref F2 F4 s24
    · exact kit_ref F2 F5 s25
    · exact kit_ref F3 F1 s31
    · exact kit_ref F3 F2 s32
    · exact kit_ref F3 F3 F3.s
    · exact kit_ref F3 F4 s34
    · exact kit_ref F3 F5 s35
    · exact kit_ref F4 F1 s41
    · exact kit_ref F4 F2 s42
    · exact kit_ref F4 F3 s43
    · exact kit_ref F4 F4 F4.s
    · exact kit_ref F4 F5 s45
    · exact kit_ref F5 F1 s51
    · exact kit_ref F5 F2 s52
    · exact kit_ref F5 F3 s53
    · exact kit_ref F5 F4 s54
    · exact kit_ref F5 F5 F5.s
  · intro x; cases x
    · exact kit_val F1
    · exact kit_val F2
    · exact kit_val F3
    · exact kit_val F4
    · exact kit_val F5
end RS
/-! ### who is a guest; a seating and the list of who sits -/
namespace RS
open PySem PySem.Spec PyProof.Rows L2
def isG : V → Bool
  | .int i => decide (0 ≤ i) && decide (i < 1000000000000000000000000000000000000000000000000000000000000)
  | _ => false
theorem isG_yes {i : Int} (h0 : 0 ≤ i) (h1 : i < 1000000000000000000000000000000000000000000000000000000000000) : isG (.int i) = true := by
  show (decide _ && decide _) = true
  rw [decide_eq_true h0, decide_eq_true h1]; rfl
theorem isG_neg {i : Int} (h0 : i < 0) : isG (.int i) = false := by
  show (decide _ && decide _) = false
  rw [decide_eq_false (p := 0 ≤ i) (by omega)]; rfl
theorem isG_big {i : Int} (h0 : 1000000000000000000000000000000000000000000000000000000000000 ≤ i) : isG (.int i) = false := by
  show (decide _ && decide _) = false
  rw [decide_eq_false (p := i < 1000000000000000000000000000000000000000000000000000000000000) (by omega), Bool.and_false]
theorem isG_is {i : Int} (h : isG (.int i) = true) : 0 ≤ i ∧ i < 1000000000000000000000000000000000000000000000000000000000000 := by
  have h' : (decide (0 ≤ i) && decide (i < 1000000000000000000000000000000000000000000000000000000000000)) = true := h
  rw [Bool.and_eq_true, decide_eq_true_eq, decide_eq_true_eq] at h'
  exact h'
theorem isG_int {x : V} (h : isG x = true) : ∃ g, x = .int g := by
  cases x with
  | int g => exact ⟨g, rfl⟩
  | _ => cases h
theorem cut_ints {ns : List Int} {lo hi : Option Int} : ∃ cs : List Int, cutV (ns.map V.int) lo hi = cs.map V.int ∧ cs.length ≤ ns.length := by
  unfold cutV
  refine ⟨(ns.drop _).take _, by rw [List.map_take, List.map_drop], ?_⟩
  rw [List.length_take, List.length_drop]; omega
/-- a seating and the list of who sits -/
structure Seat (n : Nat) (f : Nat → Option Int) (gs : List Int) : Prop where
  P : Ring.Path n (hm n) f
  nd : gs.Nodup
  st : ∀ x, Ring.Sits n f x ↔ x ∈ gs
  lt : gs.length + 1 ≤ n
  g : ∀ x ∈ gs, isG (.int x) = true
theorem Seat.em {n : Nat} {f : Nat → Option Int} {gs : List Int} (S : Seat n f gs) (hn : 0 < n) : Ring.em n f + gs.length = n := Ring.em_of (hm_lt hn) S.P S.nd S.st
theorem Seat.e {n : Nat} {f : Nat → Option Int} {gs : List Int} (S : Seat n f gs) (hn : 0 < n) : ∃ e, e < n ∧ f e = none := Ring.em_pos.mp (by have := S.em hn; have := S.lt; omega)
theorem seat_none {n : Nat} (hn : 1 ≤ n) : Seat n (fun _ => none) [] := ⟨Ring.path_none, List.nodup_nil, fun x => ⟨fun h => absurd h Ring.sits_none, fun h => nomatch h⟩, hn, fun x h => nomatch h⟩
theorem Seat.add {n : Nat} {f f' : Nat → Option Int} {gs : List Int} {g : Int} (S : Seat n f gs) (h : g ∉ gs) (hG : isG (.int g) = true) (hl : gs.length + 2 ≤ n) (P : Ring.Path n (hm n) f') (st : ∀ x, Ring.Sits n f' x ↔ Ring.Sits n f x ∨ x = g) : Seat n f' (gs ++ [g]) := by
  refine ⟨P, List.nodup_append.mpr ⟨S.nd, by simp, fun x hx y hy => by simp at hy; subst hy; intro z; exact h (z ▸ hx)⟩, fun x => ?_, by rw [List.length_append]; simp; omega, fun x hx => ?_⟩
  · rw [st x, S.st x, List.mem_append, List.mem_singleton]
  · rcases List.mem_append.mp hx with h | h
    · exact S.g x h
    · rw [List.mem_singleton.mp h]; exact hG
theorem Seat.perm {n : Nat} {f : Nat → Option Int} {gs : List Int} (S : Seat n f gs) (hn : 0 < n) : (Ring.gl n f).Perm gs := Ring.gl_perm (hm_lt hn) S.P S.nd S.st
theorem Seat.del {n : Nat} {f f' : Nat → Option Int} {gs hs : List Int} {g : Int} (S : Seat n f gs) (P : Ring.Path n (hm n) f') (st : ∀ x, Ring.Sits n f' x ↔ Ring.Sits n f x ∧ x ≠ g) (nd : hs.Nodup) (e : ∀ x, x ∈ hs ↔ x ∈ gs ∧ x ≠ g) : Seat n f' hs := by
  have hl : hs.length ≤ gs.length := List.Nodup.length_le_of_subset nd fun x hx => ((e x).mp hx).1
  refine ⟨P, nd, fun x => ?_, by have := S.lt; omega, fun x hx => S.g x ((e x).mp hx).1⟩
  rw [st x, S.st x, e x]
/-- of the same guests just one seating -/
theorem Seat.one {n : Nat} {f f' : Nat → Option Int} {gs hs : List Int} (hn : 0 < n) (S : Seat n f gs) (T : Seat n f' hs) (e : ∀ x, x ∈ gs ↔ x ∈ hs) : row n f = row n f' :=
  row_ext (Ring.alike (hm_lt hn) S.P T.P (fun g => by rw [T.st, S.st, e]) (T.e hn) (S.e hn))
theorem ints_flat {gs : List Int} : (gs.map V.int).all flatV = true := by
  rw [List.all_map, List.all_eq_true]; intro x _; rfl
theorem ints_flD {gs : List Int} : (gs.map V.int).all flD = true := by
  rw [List.all_map, List.all_eq_true]; intro x _; rfl
theorem in_ints {gs : List Int} {g : Int} : inV (.int g) (gs.map V.int) = decide (g ∈ gs) := by
  unfold inV
  rw [List.any_map, Bool.eq_iff_iff, List.any_eq_true, decide_eq_true_eq]
  constructor
  · rintro ⟨x, hx, e⟩
    rw [← show x = g from of_decide_eq_true e]; exact hx
  · intro h; exact ⟨g, h, decide_eq_true rfl⟩
theorem sorted_one {a b c d : List Int} (h1 : a.Perm c) (h2 : b.Perm d) (h3 : a.Pairwise (· ≤ ·)) (h4 : b.Pairwise (· ≤ ·)) (h : c.Perm d) : a = b :=
  List.Perm.eq_of_pairwise (fun _ _ _ _ h1 h2 => Int.le_antisymm h1 h2) h3 h4 (h1.trans (h.trans h2.symm))
theorem gl_next {i : Nat} {f : Nat → Option Int} : Ring.gl (i + 1) f = Ring.gl i f ++ (match f i with | none => [] | some g => [g]) := by
  unfold Ring.gl
  rw [List.range_succ, List.filterMap_append]
  cases e : f i <;> simp [e]
theorem at_before {n : Nat} {f : Nat → Option Int} {k : Nat} (hk : k < n) : atI (row n f) ((k : Int) - 1) = some (ov (f (Ring.pv n k))) := by
  unfold atI Ring.pv
  rw [row_len]
  split
  · rename_i e
    subst e
    rw [show ixN n (((0 : Nat) : Int) - 1) = some (n - 1) by unfold ixN; rw [if_neg (by omega), if_pos (by omega)]; congr 1; omega]
    exact row_get (by omega)
  · rw [show ixN n ((k : Int) - 1) = some (k - 1) by unfold ixN; rw [if_pos (by omega), if_pos (by omega)]; congr 1; omega]
    exact row_get (by omega)
theorem cut_take {gs : List Int} {k : Nat} : cutV (gs.map V.int) none (some (k : Int)) = (gs.take k).map V.int := by
  unfold cutV
  rw [HT.sIx_nat, List.map_take]
  show List.take (min k _ - 0) (List.drop 0 _) = _
  rw [List.drop_zero, Nat.sub_zero, List.length_map]
  by_cases h : k ≤ gs.length
  · rw [Nat.min_eq_left h]
  · rw [Nat.min_eq_right (by omega), List.take_of_length_le (by simp), List.take_of_length_le (by simp; omega)]
theorem take_next {gs : List Int} {j : Nat} (h : j < gs.length) : gs.take (j + 1) = gs.take j ++ [gs[j]] := by
  rw [List.take_succ, List.getElem?_eq_getElem h]; rfl
theorem take_new {gs : List Int} (nd : gs.Nodup) {j : Nat} (h : j < gs.length) : gs[j] ∉ gs.take j := by
  intro z
  obtain ⟨i, hi, e⟩ := List.mem_take_iff_getElem.mp z
  have := (List.getElem_inj nd).mp e
  omega
end RS
/-! "run": a reading is worked off by rewriting, from the left -/
local macro_rules | `(tactic| walk_at "run") => `(tactic| simp only [L2.tSeq, L2.tAsg, L2.gName, L2.tVar, L2.tC, L2.tOp, L2.tUn, L2.tTest, L2.tB, L2.tIfS, L2.tNext, L2.tRet, L2.tRetN, L2.tDrop, L2.tCall, L2.tCons, L2.tNil, L2.tCB, L2.tAnd, L2.tOr, L2.tNot, L2.tAndV, L2.tOrV, L2.tNotV, L2.tIf, L2.tIsN, L2.tNotN, L2.tBreak, L2.tCont, L2.tTup, L2.tLst, L2.gTup, L2.gCons, L2.gNil, L2.gSub, L2.tChain, L2.tDGet, L2.tDIn, L2.tDNotIn, L2.sDPut, L2.tDNewK,
  L2.rI, L2.rI0, L2.rU, L2.rEq, L2.rNe, L2.rIxL, L2.rIxT, L2.rIn, L2.rIsi, L2.rSetL, L2.rCat, L2.rRep, L2.rSlL, L2.tSl, RS.tStepL, L2.tPart, L2.tNoPart, L2.tYes, RS.ov_non, RS.ov_some, L2.rIsB, L2.rNotB, RS.rIsA, RS.isWh_int, RS.isWh_bl, RS.isWh_non, RS.isWh_ref, RS.Ty.nm, RS.Ty.isA, RS.tyOf_int, RS.tyOf_bl, RS.tyOf_non, RS.tyOf_str, RS.rLenS, RS.rLenD, L2.rListD, L2.tBM0, RS.rListS, RS.rMax2, RS.rMin2, RS.rInt1, RS.rStr1, RS.CMl, L2.CDiv, L2.scal,
  List.getElem?_cons_zero, List.getElem?_cons_succ, List.set_cons_zero, List.set_cons_succ, List.append_nil, List.nil_append, List.cons_append,
  Option.some.injEq, L2.V.int.injEq, L2.V.bl.injEq, L2.V.ref.injEq, L2.V.str.injEq, List.cons.injEq, List.nil_eq, reduceCtorEq,
  exists_eq, exists_eq', exists_eq_left, exists_eq_left', exists_eq_right, exists_eq_right', exists_and_left, exists_and_right, exists_const, and_assoc, Int.reduceLT, Int.reduceLE, Int.reduceNeg, Nat.reduceLT, Nat.reduceLeDiff, List.length_cons, List.length_nil, Nat.reduceAdd, Int.reduceMul, Int.reduceSub, true_or, or_true, true_and, and_true, and_self, false_and, and_false, or_false, false_or, decide_eq_true_eq, Bool.not_eq_true', Bool.not_eq_true, decide_eq_false_iff_not, Bool.not_not, Bool.true_eq_false, Bool.false_eq_true, if_true, if_false, Bool.not_true, Bool.not_false, decide_true, decide_false, eq_self, not_true_eq_false, not_false_eq_true, ite_true, ite_false])
local macro_rules | `(tactic| walk_at "nxt") => `(tactic| dsimp only [L2.tSeq, L2.tNext, List.set_cons_zero, List.set_cons_succ])
namespace RS
open PySem PySem.Spec PyProof.Rows L2
def sp_is_guest (K : PySem.W.Frag) (C : Cs) : Sp := fun vs H Q _ => ∃ (x : V) (s : Ty), vs = [x] ∧ tyOf H x = some s ∧ Q (.bl (isG x)) H
def sp_home (K : PySem.W.Frag) (C : Cs) : Sp := fun vs H Q _ => ∃ g n : Int, vs = [.int g, .int n] ∧ 0 < n ∧ Q (.int (homeI g n)) H
def sp_carried (K : PySem.W.Frag) (C : Cs) : Sp := fun vs H Q _ => ∃ g p n : Int, vs = [.int g, .int p, .int n] ∧ 0 < n ∧ Q (.int (farI g p n)) H
def sp_ahead (K : PySem.W.Frag) (C : Cs) : Sp := fun vs H Q _ => ∃ a b p n : Int, vs = [.int a, .int b, .int p, .int n] ∧ 0 < n ∧ Q (.bl (aheadI a b p n)) H
def sp_look_for (K : PySem.W.Frag) (C : Cs) : Sp := fun vs H Q E => ∃ (a : Addr) (n : Nat) (f : Nat → Option Int) (x : V) (s : Ty), vs = [.ref a, x] ∧ SqL K H a (row n f) ∧ 1 ≤ n ∧ n ≤ 1024 ∧ (∃ e, e < n ∧ f e = none) ∧ tyOf H x = some s ∧
  (isG x = false → E (.ref C.cNoGuest) none H) ∧ ∀ g, x = .int g → isG x = true → ∀ (H' : Hp) (t : Addr) (p : Nat), Same H H' → p < n → Ring.Loc n (hm n) f g p → H' t = some (.tup [.int p, .int ((Ring.far n (hm n g) p + 1 : Nat) : Int)]) → Q (.ref t) H'
def sp_place_of (K : PySem.W.Frag) (C : Cs) : Sp := fun vs H Q E => ∃ (a : Addr) (n : Nat) (f : Nat → Option Int) (x : V) (s : Ty), vs = [.ref a, x] ∧ SqL K H a (row n f) ∧ 1 ≤ n ∧ n ≤ 1024 ∧ (∃ e, e < n ∧ f e = none) ∧ tyOf H x = some s ∧
  (isG x = false → E (.ref C.cNoGuest) none H) ∧ ∀ g, x = .int g → isG x = true → ∀ (H' : Hp) (p : Nat), Same H H' → p < n → Ring.Loc n (hm n) f g p → Q (if f p = some g then .int p else .non) H'
def sp_take_seat (K : PySem.W.Frag) (C : Cs) : Sp := fun vs H Q _ => ∃ (a : Addr) (n : Nat) (f : Nat → Option Int) (g : Int), vs = [.ref a, .int g] ∧ H a = some (.lst (row n f)) ∧ 2 ≤ n ∧ n ≤ 1024 ∧ Ring.Path n (hm n) f ∧ (∃ e, e < n ∧ f e = none) ∧ ¬ Ring.Sits n f g ∧ isG (.int g) = true ∧
  ∀ (H' : Hp) (f' : Nat → Option Int) (p : Nat), Off a H H' → H' a = some (.lst (row n f')) → Ring.Path n (hm n) f' → (∀ x, Ring.Sits n f' x ↔ Ring.Sits n f x ∨ x = g) → p < n → f' p = some g → Q (.int p) H'
def sp_leave_seat (K : PySem.W.Frag) (C : Cs) : Sp := fun vs H Q _ => ∃ (a : Addr) (n : Nat) (f : Nat → Option Int) (p : Nat) (g : Int), vs = [.ref a, .int p] ∧ H a = some (.lst (row n f)) ∧ 2 ≤ n ∧ n ≤ 1024 ∧ Ring.Path n (hm n) f ∧ (∃ e, e < n ∧ f e = none) ∧ p < n ∧ f p = some g ∧
  ∀ f', Ring.Path n (hm n) f' → (∀ x, Ring.Sits n f' x ↔ Ring.Sits n f x ∧ x ≠ g) → Q .non (upd H a (.lst (row n f')))
theorem cnt_none {n : Nat} {f : Nat → Option Int} : (row n f).countP (fun z => eqV z .non) = Ring.em n f := by
  unfold row Ring.em
  rw [List.countP_map]
  refine List.countP_congr fun p _ => ?_
  show eqV (ov (f p)) .non = true ↔ _
  cases f p <;> simp [ov, eqV]
def sp_seat_in (K : PySem.W.Frag) (C : Cs) : Sp := fun vs H Q E => ∃ (a : Addr) (n : Nat) (f : Nat → Option Int) (x : V) (s : Ty), vs = [.ref a, x] ∧ SqL K H a (row n f) ∧ 2 ≤ n ∧ n ≤ 1024 ∧ Ring.Path n (hm n) f ∧ (∃ e, e < n ∧ f e = none) ∧ tyOf H x = some s ∧
  (isG x = false → E (.ref C.cNoGuest) none H) ∧ ∀ g, x = .int g → isG x = true → (Ring.Sits n f g → ∀ H', Same H H' → E (.ref C.cTwice) none H') ∧ (¬ Ring.Sits n f g → Ring.em n f < 2 → ∀ H', Same H H' → E (.ref C.cFull) none H') ∧
    (¬ Ring.Sits n f g → 2 ≤ Ring.em n f → ∀ (H' : Hp) (s : Addr) (f' : Nat → Option Int), Same H H' → H' s = some (.lst (row n f')) → H s = none → Ring.Path n (hm n) f' → (∀ y, Ring.Sits n f' y ↔ Ring.Sits n f y ∨ y = g) → Q (.ref s) H')
def sp_seat_out (K : PySem.W.Frag) (C : Cs) : Sp := fun vs H Q E => ∃ (a : Addr) (n : Nat) (f : Nat → Option Int) (x : V) (s : Ty), vs = [.ref a, x] ∧ SqL K H a (row n f) ∧ 2 ≤ n ∧ n ≤ 1024 ∧ Ring.Path n (hm n) f ∧ (∃ e, e < n ∧ f e = none) ∧ tyOf H x = some s ∧
  (isG x = false → E (.ref C.cNoGuest) none H) ∧ ∀ g, x = .int g → isG x = true → (¬ Ring.Sits n f g → ∀ H', Same H H' → E (.ref C.cAway) none H') ∧
    (Ring.Sits n f g → ∀ (H' : Hp) (s : Addr) (f' : Nat → Option Int), Same H H' → H' s = some (.lst (row n f')) → H s = none → Ring.Path n (hm n) f' → (∀ y, Ring.Sits n f' y ↔ Ring.Sits n f y ∧ y ≠ g) → Q (.ref s) H')
theorem all_ints {xs : List V} (h : ∀ x ∈ xs, isG x = true) : ∃ gs : List Int, xs = gs.map V.int ∧ ∀ g ∈ gs, isG (.int g) = true := by
  induction xs with
  | nil => exact ⟨[], rfl, fun _ h => nomatch h⟩
  | cons x xs ih =>
    obtain ⟨gs, rfl, hg⟩ := ih fun y hy => h y (List.mem_cons_of_mem _ hy)
    obtain ⟨g, rfl⟩ := isG_int (h x List.mem_cons_self)
    refine ⟨g :: gs, rfl, fun y hy => ?_⟩
    rcases List.mem_cons.mp hy with rfl | hy
    · exact h _ List.mem_cons_self
    · exact hg y hy
def sp_looked_through (K : PySem.W.Frag) (C : Cs) : Sp := fun vs H Q E => ∃ (a : Addr) (xs : List V) (n : Nat), vs = [.ref a, .int n] ∧ SqL K H a xs ∧ xs.length ≤ 1000 ∧ (∀ x ∈ xs, ∃ s, tyOf H x = some s) ∧
  ((∃ x ∈ xs, isG x = false) → E (.ref C.cNoGuest) none H) ∧ ∀ gs : List Int, xs = gs.map V.int → (∀ g ∈ gs, isG (.int g) = true) → (¬ gs.Nodup → E (.ref C.cTwice) none H) ∧ (gs.Nodup → n ≤ gs.length → E (.ref C.cFull) none H) ∧ (gs.Nodup → gs.length < n → Q .non H)
def sp_seated (K : PySem.W.Frag) (C : Cs) : Sp := fun vs H Q E => ∃ (a : Addr) (xs : List V) (n : Nat), vs = [.ref a, .int n] ∧ SqL K H a xs ∧ xs.length ≤ 1000 ∧ 2 ≤ n ∧ n ≤ 1024 ∧ (∀ x ∈ xs, ∃ s, tyOf H x = some s) ∧
  ((∃ x ∈ xs, isG x = false) → E (.ref C.cNoGuest) none H) ∧ ∀ gs : List Int, xs = gs.map V.int → (∀ g ∈ gs, isG (.int g) = true) → (¬ gs.Nodup → E (.ref C.cTwice) none H) ∧ (gs.Nodup → n ≤ gs.length → E (.ref C.cFull) none H) ∧
    (gs.Nodup → gs.length < n → ∀ (H' : Hp) (s : Addr) (f : Nat → Option Int), Same H H' → H' s = some (.lst (row n f)) → H s = none → Seat n f gs → Q (.ref s) H')
def cellI (ns : List Int) (k : Int) : Int := if k < ns.length then ns.getD k.toNat 0 else 0
def sp_law_cell_at (K : PySem.W.Frag) (C : Cs) : Sp := fun vs H Q _ => ∃ (a : Addr) (ns : List Int) (k : Int), vs = [.ref a, .int k] ∧ SqL K H a (ns.map V.int) ∧ 0 ≤ k ∧ Q (.int (cellI ns k)) H
def sp_law_whole (K : PySem.W.Frag) (C : Cs) : Sp := fun vs H Q _ => ∃ (x : V) (s : Ty), vs = [x] ∧ tyOf H x = some s ∧ Q (.bl (isWh x)) H
def sp_law_home (K : PySem.W.Frag) (C : Cs) : Sp := fun vs H Q _ => ∃ g n : Int, vs = [.int g, .int n] ∧ 0 < n ∧ Q (.int (homeI g n)) H
def baseI (c : Int) : Int := if c % 2 = 0 then c / 2 % 10000000000000000000000000000000000000000000000000000000000 else c / 2 % 70001
theorem baseI_ok (c : Int) : 0 ≤ baseI c ∧ baseI c < 10000000000000000000000000000000000000000000000000000000000 := by
  unfold baseI; split <;> omega
def sp_law_base (K : PySem.W.Frag) (C : Cs) : Sp := fun vs H Q _ => ∃ c : Int, vs = [.int c] ∧ Q (.int (baseI c)) H
def gstI (c b : Int) : Int := if c % 5 = 0 then c / 5 % 1000000000000000000000000000000000000000000000000000000000000 else if c % 5 = 1 then c / 5 % 400 else if c % 5 = 2 then b + 4294967296 * (c / 5 % 10000000000000000000000000000000000000000) else if c % 5 = 3 then b + 65536 * (c / 5 % 12) else b + 65536 * (c / 5 % 3) + 4294967296 * (c / 5 / 3 % 7)
theorem gstI_ok (c b : Int) (h0 : 0 ≤ b) (h1 : b < 10000000000000000000000000000000000000000000000000000000000) : 0 ≤ gstI c b ∧ gstI c b < 1000000000000000000000000000000000000000000000000000000000000 := by
  unfold gstI; repeat' split
  all_goals omega
theorem gstI_g (c b : Int) (h : 0 ≤ b ∧ b < 10000000000000000000000000000000000000000000000000000000000) : isG (.int (gstI c b)) = true := by
  obtain ⟨h0, h1⟩ := gstI_ok c b h.1 h.2
  exact isG_yes h0 h1
def sp_law_guest (K : PySem.W.Frag) (C : Cs) : Sp := fun vs H Q _ => ∃ c b : Int, vs = [.int c, .int b] ∧ Q (.int (gstI c b)) H
/-- the guests known so far, as the dict's entries -/
def dG (gs : List Int) : List (Key × V) := gs.map fun g => (.inl g, .bl true)
theorem dG_len {gs : List Int} : (dG gs).length = gs.length := List.length_map _
theorem dG_val {gs : List Int} {g : Int} : (valV (dG gs) (.inl g)).isSome = decide (g ∈ gs) := by
  rw [← valV_any]
  unfold dG
  rw [List.any_map, Bool.eq_iff_iff, List.any_eq_true, decide_eq_true_eq]
  constructor
  · rintro ⟨x, hx, e⟩
    have : (Sum.inl x : Key) = .inl g := of_decide_eq_true e
    cases this; exact hx
  · intro h; exact ⟨g, h, decide_eq_true rfl⟩
theorem dG_put {gs : List Int} {g : Int} (h : g ∉ gs) : putK (dG gs) (.inl g) (.bl true) = dG (gs ++ [g]) := by
  unfold putK
  rw [valV_any, dG_val, decide_eq_false h, if_neg (by decide)]
  unfold dG; rw [List.map_append]; rfl
theorem dG_again {gs : List Int} {g : Int} (h : g ∈ gs) : putK (dG gs) (.inl g) (.bl true) = dG gs := by
  unfold putK
  rw [valV_any, dG_val, decide_eq_true h, if_pos rfl]
  unfold dG
  rw [List.map_map]
  refine List.map_congr_left fun x _ => ?_
  show (if _ then _ else _) = _
  split
  · rename_i e
    have : (Sum.inl x : Key) = .inl g := e
    cases this; rfl
  · rfl
def addG (gs : List Int) (g : Int) : List Int := if g ∈ gs then gs else gs ++ [g]
theorem dG_add {gs : List Int} {g : Int} : putK (dG gs) (.inl g) (.bl true) = dG (addG gs g) := by
  unfold addG; split
  · exact dG_again ‹_›
  · exact dG_put ‹_›
theorem addG_nd {gs : List Int} {g : Int} (h : gs.Nodup) : (addG gs g).Nodup := by
  unfold addG; split
  · exact h
  · rename_i hg
    exact List.nodup_append.mpr ⟨h, by simp, fun x hx y hy => by simp at hy; subst hy; intro z; exact hg (z ▸ hx)⟩
theorem addG_len {gs : List Int} {g : Int} : (addG gs g).length ≤ gs.length + 1 := by
  unfold addG; split
  · omega
  · rw [List.length_append]; simp
theorem addG_mem {gs : List Int} {g x : Int} (h : x ∈ addG gs g) : x ∈ gs ∨ x = g := by
  unfold addG at h; split at h
  · exact .inl h
  · rcases List.mem_append.mp h with h | h
    · exact .inl h
    · exact .inr (List.mem_singleton.mp h)
theorem dG_keys {gs : List Int} : ((dG gs).map fun kv => kV kv.1) = gs.map V.int := by
  unfold dG; rw [List.map_map]; rfl
def sp_law_drawn (K : PySem.W.Frag) (C : Cs) : Sp := fun vs H Q _ => ∃ (a : Addr) (cs : List Int) (b : Int), vs = [.ref a, .int b] ∧ SqL K H a (cs.map V.int) ∧ cs.length ≤ 63 ∧
  ∀ (H' : Hp) (d : Addr) (gs : List Int), Same H H' → H' d = some (.lst (gs.map V.int)) → gs.Nodup → gs.length ≤ cs.length → (∀ x ∈ gs, ∃ c, x = gstI c b) → Q (.ref d) H'
theorem far_before_is {n k : Nat} (hk : k < n) (g : Int) : ((k : Int) - 1 - homeI g n) % (n : Int) = (Ring.far n (hm n g) (Ring.pv n k) : Int) := by
  have hn : 0 < n := by omega
  rw [hm_is hn, ← mod_far (hm_lt hn g) (Ring.pv_lt hk), ← pv_is hk, Int.emod_sub_emod]
def sp_law_settled (K : PySem.W.Frag) (C : Cs) : Sp := fun vs H Q _ => ∃ (s a : Addr) (n : Nat) (f : Nat → Option Int) (gs : List Int), vs = [.ref s, .int n, .ref a] ∧ H s = some (.lst (row n f)) ∧ SqL K H a (gs.map V.int) ∧ n ≤ 1024 ∧ Ring.Path n (hm n) f ∧ (∃ e, e < n ∧ f e = none) ∧ (Ring.gl n f).Perm gs ∧ ∀ H', Same H H' → Q (.bl true) H'
def sp_law_same (K : PySem.W.Frag) (C : Cs) : Sp := fun vs H Q _ => ∃ (s a : Addr) (n : Nat) (f : Nat → Option Int), vs = [.ref s, .ref a] ∧ H s = some (.lst (row n f)) ∧ SqL K H a (row n f) ∧ n ≤ 1024 ∧ ∀ H', Same H H' → Q (.bl true) H'
def sp_law_turned (K : PySem.W.Frag) (C : Cs) : Sp := fun vs H Q _ => ∃ (a b : Addr) (gs cs : List Int), vs = [.ref a, .ref b] ∧ SqL K H a (gs.map V.int) ∧ SqL K H b (cs.map V.int) ∧ gs.length ≤ cs.length ∧ gs.length ≤ 1000 ∧
  ∀ (H' : Hp) (d : Addr) (os : List Int), Same H H' → H' d = some (.lst (os.map V.int)) → os.Perm gs → Q (.ref d) H'
theorem Seat.re {n : Nat} {f : Nat → Option Int} {gs hs : List Int} (S : Seat n f gs) (pm : gs.Perm hs) : Seat n f hs :=
  ⟨S.P, pm.nodup_iff.mp S.nd, fun x => (S.st x).trans pm.mem_iff, by have := S.lt; rw [pm.length_eq] at this; exact this, fun x hx => S.g x (pm.mem_iff.mpr hx)⟩
def ol : Option Int → List Int
  | none => []
  | some z => [z]
def sp_law_one_by_one (K : PySem.W.Frag) (C : Cs) : Sp := fun vs H Q _ => ∃ (a c : Addr) (os cs : List Int) (n : Nat) (b : Int), vs = [.ref a, .int n, .ref c, .int b] ∧ SqL K H a (os.map V.int) ∧ SqL K H c (cs.map V.int) ∧ os.length ≤ cs.length ∧ os.length ≤ 1000 ∧ os.length + 2 ≤ n ∧ n ≤ 1024 ∧ os.Nodup ∧ (∀ g ∈ os, isG (.int g) = true) ∧ 0 ≤ b ∧ b < 10000000000000000000000000000000000000000000000000000000000 ∧
  ∀ (H' : Hp) (s : Addr) (f : Nat → Option Int), Same H H' → H' s = some (.lst (row n f)) → Seat n f os → Q (.ref s) H'
def sp_law_odd (K : PySem.W.Frag) (C : Cs) : Sp := fun vs H Q _ => ∃ c : Int, vs = [.int c] ∧ ∀ (H' : Hp) (x : V) (s : Ty), Same H H' → tyOf H' x = some s → isG x = false → Q x H'
def rfK (k : Ek) : List V := [.bl (decide (k = .noGuest)), .bl (decide (k = .twice)), .bl (decide (k = .full)), .bl true]
/-- why a list is refused -/
def Why (xs : List V) (n : Nat) (k : Ek) : Prop := (k = .noGuest ∧ ∃ x ∈ xs, isG x = false) ∨ ∃ gs : List Int, xs = gs.map V.int ∧ (∀ g ∈ gs, isG (.int g) = true) ∧ ((k = .twice ∧ ¬ gs.Nodup) ∨ (k = .full ∧ gs.Nodup ∧ n ≤ gs.length))
def sp_law_refused (K : PySem.W.Frag) (C : Cs) : Sp := fun vs H Q _ => ∃ (a : Addr) (xs : List V) (n : Nat) (k : Ek), vs = [.ref a, .int n] ∧ SqL K H a xs ∧ xs.length ≤ 1000 ∧ 2 ≤ n ∧ n ≤ 1024 ∧ (∀ x ∈ xs, ∃ s, tyOf H x = some s) ∧ Why xs n k ∧
  ∀ (H' : Hp) (d : Addr), Same H H' → H' d = some (.lst (rfK k)) → Q (.ref d) H'
theorem ints_inj : ∀ {as bs : List Int}, as.map V.int = bs.map V.int → as = bs
  | [], [], _ => rfl
  | [], _ :: _, h => nomatch h
  | _ :: _, [], h => nomatch h
  | a :: as, b :: bs, h => by
    rw [List.map_cons, List.map_cons] at h
    injection h with h1 h2
    cases h1
    rw [ints_inj h2]
def dueV (d1 d2 d3 : Bool) : List V := [.bl d1, .bl d2, .bl d3]
def sp_law_spoiled (K : PySem.W.Frag) (C : Cs) : Sp := fun vs H Q _ => ∃ (a b : Addr) (ns gs : List Int), vs = [.ref a, .ref b] ∧ SqL K H a (ns.map V.int) ∧ SqL K H b (gs.map V.int) ∧ gs.length ≤ 63 ∧ gs.Nodup ∧ (∀ g ∈ gs, isG (.int g) = true) ∧
  ∀ (H' : Hp) (t pS pD : Addr) (n : Nat) (xs : List V) (d1 d2 d3 : Bool), Same H H' → H' t = some (.lst [.ref pS, .int n, .ref pD]) → H' pS = some (.lst xs) → H' pD = some (.lst (dueV d1 d2 d3)) → xs.length ≤ 100 → 2 ≤ n → n ≤ 1024 → xs.all okV = true → (∀ x ∈ xs, ∃ s, tyOf H' x = some s) →
    ((d1 = false ∧ d2 = false ∧ d3 = false) ∨ ∃ k, Why xs n k ∧ dueV d1 d2 d3 = [.bl (decide (k = .noGuest)), .bl (decide (k = .twice)), .bl (decide (k = .full))]) → Q (.ref t) H'
theorem ins_not {gs : List Int} {g : Int} (h : g ∈ gs) (i : Nat) : ¬ (gs.take i ++ [g] ++ gs.drop i).Nodup := fun nd => by
  rw [List.append_assoc] at nd
  have hg := h
  rw [← List.take_append_drop i gs] at hg
  obtain ⟨n1, n2, n3⟩ := List.nodup_append.mp nd
  rcases List.mem_append.mp hg with z | z
  · exact n3 g z g (by simp) rfl
  · exact (List.nodup_cons.mp n2).1 z
theorem max_is {i j : Int} : ∃ m, m = (if j > i then j else i) ∧ i ≤ m ∧ j ≤ m ∧ (m = i ∨ m = j) := ⟨_, rfl, by split <;> omega, by split <;> omega, by split <;> omega⟩
def sp_law0 (K : PySem.W.Frag) : Sp := fun vs H Q _ => ∃ (a : Addr) (ns : List Int), vs = [.ref a] ∧ SqL K H a (ns.map V.int) ∧ ns.length ≤ 63 ∧ ∀ H', Q (.bl true) H'
def sp_law (K : PySem.W.Frag) (C : Cs) : Sp := sp_law0 K
theorem rfK_flD (k : Ek) : (rfK k).all flD = true := rfl
theorem ints_ty {H : Hp} {gs : List Int} : ∀ x ∈ gs.map V.int, ∃ s, tyOf H x = some s := fun x hx => by
  obtain ⟨g, _, rfl⟩ := List.mem_map.mp hx; exact ⟨_, rfl⟩
theorem ints_bad {gs : List Int} (hg : ∀ g ∈ gs, isG (.int g) = true) : ¬ ∃ x ∈ gs.map V.int, isG x = false := fun ⟨x, hx, e⟩ => by
  obtain ⟨g, hm, rfl⟩ := List.mem_map.mp hx
  rw [hg g hm] at e; cases e
end RS
namespace RS
open PySem PySem.Spec PyProof.Rows L2
def t_is_guest (K : PySem.W.Frag) (C : Cs) (E : XK) : TS :=
  (tSeq (tIfS (tOr (tNot (tB (tCB (rIsA .int) (tCons (tVar 0) (tCons (tC (.ty "int")) tNil))))) (tB (tCB (rIsA .bool) (tCons (tVar 0) (tCons (tC (.ty "bool")) tNil))))) (tRet (tC (.bl false))) tNext)
    (tRet (tAndV (tOp rLe (tC (.int 0)) (tVar 0)) (tOp rLt (tVar 0) (tC (.int 1000000000000000000000000000000000000000000000000000000000000))))))
def t_home (K : PySem.W.Frag) (C : Cs) (E : XK) : TS :=
  (tRet (tOp rMod (tOp rMod (tOp rAdd (tOp rMul (tVar 0) (tC (.int 40503))) (tOp rFdv (tVar 0) (tC (.int 65536)))) (tC (.int 65536))) (tVar 1)))
def t_carried (K : PySem.W.Frag) (C : Cs) (E : XK) : TS :=
  (tRet (tOp rMod (tOp rSub (tVar 1) (tCall (sp_home K C) [] E0 (tCons (tVar 0) (tCons (tVar 2) tNil)))) (tVar 2)))
def t_ahead (K : PySem.W.Frag) (C : Cs) (E : XK) : TS :=
  (tSeq (tAsg (tCall (sp_carried K C) [] E0 (tCons (tVar 0) (tCons (tVar 2) (tCons (tVar 3) tNil)))) (gName 4))
    (tSeq (tAsg (tCall (sp_carried K C) [] E0 (tCons (tVar 1) (tCons (tVar 2) (tCons (tVar 3) tNil)))) (gName 5))
    (tSeq (tIfS (tTest (tOp rNe (tVar 4) (tVar 5))) (tRet (tOp rGt (tVar 4) (tVar 5))) tNext)
    (tRet (tOp rLt (tVar 0) (tVar 1))))))
def t_look_for_b1 (K : PySem.W.Frag) (C : Cs) (E : XK) : TS :=
  (tSeq (tAsg (tOp rMod (tOp rAdd (tVar 3) (tC (.int 1))) (tVar 2)) (gName 3))
    (tAsg (tOp rAdd (tVar 4) (tC (.int 1))) (gName 4)))
def t_look_for (K : PySem.W.Frag) (C : Cs) (E : XK) : TS :=
  (tSeq (tIfS (tNot (tB (tCall (sp_is_guest K C) [] E0 (tCons (tVar 1) tNil)))) (fun _ _ H => E (.ref C.cNoGuest) none H) tNext)
    (tSeq (tAsg (tCB (rLenS K) (tCons (tVar 0) tNil)) (gName 2))
    (tSeq (tAsg (tCall (sp_home K C) [] E0 (tCons (tVar 1) (tCons (tVar 2) tNil))) (gName 3))
    (tSeq (tAsg (tC (.int 1)) (gName 4))
    (tSeq (tWhile (tAnd (tB (tNotN (tOp (rIxL K) (tVar 0) (tVar 3)))) (tB (tCall (sp_ahead K C) [] E0 (tCons (tOp (rIxL K) (tVar 0) (tVar 3)) (tCons (tVar 1) (tCons (tVar 3) (tCons (tVar 2) tNil))))))) (t_look_for_b1 K C E))
    (tRet (tTup (tCons (tVar 3) (tCons (tVar 4) tNil)))))))))
def t_place_of (K : PySem.W.Frag) (C : Cs) (E : XK) : TS :=
  (tSeq (tAsg (tOp (rIxT K) (tCall (sp_look_for K C) [] E (tCons (tVar 0) (tCons (tVar 1) tNil))) (tC (.int 0))) (gName 2))
    (tSeq (tIfS (tTest (tOp rEq (tOp (rIxL K) (tVar 0) (tVar 2)) (tVar 1))) (tRet (tVar 2)) tNext)
    (tRet (tC .non))))
def t_take_seat_b1 (K : PySem.W.Frag) (C : Cs) (E : XK) : TS :=
  (tSeq (tAsg (tOp (rIxL K) (tVar 0) (tVar 2)) (gName 4))
    (tSeq (tAsg (tVar 1) (gSub (tVar 0) (tVar 2) rSetL))
    (tSeq (tAsg (tVar 4) (gName 1))
    (tAsg (tOp rMod (tOp rAdd (tVar 2) (tC (.int 1))) (tCB (rLenS K) (tCons (tVar 0) tNil))) (gName 2)))))
def t_take_seat (K : PySem.W.Frag) (C : Cs) (E : XK) : TS :=
  (tSeq (tAsg (tOp (rIxT K) (tCall (sp_look_for K C) [] E (tCons (tVar 0) (tCons (tVar 1) tNil))) (tC (.int 0))) (gName 2))
    (tSeq (tAsg (tVar 2) (gName 3))
    (tSeq (tWhile (tB (tNotN (tVar 1))) (t_take_seat_b1 K C E))
    (tRet (tVar 3)))))
def t_leave_seat_b1 (K : PySem.W.Frag) (C : Cs) (E : XK) : TS :=
  (tSeq (tAsg (tOp (rIxL K) (tVar 0) (tVar 3)) (gSub (tVar 0) (tVar 1) rSetL))
    (tSeq (tAsg (tVar 3) (gName 1))
    (tAsg (tOp rMod (tOp rAdd (tVar 1) (tC (.int 1))) (tVar 2)) (gName 3))))
def t_leave_seat (K : PySem.W.Frag) (C : Cs) (E : XK) : TS :=
  (tSeq (tAsg (tCB (rLenS K) (tCons (tVar 0) tNil)) (gName 2))
    (tSeq (tAsg (tOp rMod (tOp rAdd (tVar 1) (tC (.int 1))) (tVar 2)) (gName 3))
    (tSeq (tWhile (tAnd (tB (tNotN (tOp (rIxL K) (tVar 0) (tVar 3)))) (tTest (tOp rGt (tCall (sp_carried K C) [] E0 (tCons (tOp (rIxL K) (tVar 0) (tVar 3)) (tCons (tVar 3) (tCons (tVar 2) tNil)))) (tC (.int 0))))) (t_leave_seat_b1 K C E))
    (tAsg (tC .non) (gSub (tVar 0) (tVar 1) rSetL)))))
def t_seat_in (K : PySem.W.Frag) (C : Cs) (E : XK) : TS :=
  (tSeq (tIfS (tB (tNotN (tCall (sp_place_of K C) [] E (tCons (tVar 0) (tCons (tVar 1) tNil))))) (fun _ _ H => E (.ref C.cTwice) none H) tNext)
    (tSeq (tIfS (tTest (tOp rLt (tBM K "list" (rCount K) (tVar 0) (tCons (tC .non) tNil)) (tC (.int 2)))) (fun _ _ H => E (.ref C.cFull) none H) tNext)
    (tSeq (tAsg (tCB (rListS K) (tCons (tVar 0) tNil)) (gName 2))
    (tSeq (tDrop (tCall (sp_take_seat K C) [] E (tCons (tVar 2) (tCons (tVar 1) tNil))))
    (tRet (tVar 2))))))
def t_seat_out (K : PySem.W.Frag) (C : Cs) (E : XK) : TS :=
  (tSeq (tAsg (tCall (sp_place_of K C) [] E (tCons (tVar 0) (tCons (tVar 1) tNil))) (gName 2))
    (tSeq (tIfS (tB (tIsN (tVar 2))) (fun _ _ H => E (.ref C.cAway) none H) tNext)
    (tSeq (tAsg (tCB (rListS K) (tCons (tVar 0) tNil)) (gName 3))
    (tSeq (tDrop (tCall (sp_leave_seat K C) [] E0 (tCons (tVar 3) (tCons (tVar 2) tNil))))
    (tRet (tVar 3))))))
def t_looked_through_b1 (K : PySem.W.Frag) (C : Cs) (E : XK) : TS :=
  (tIfS (tNot (tB (tCall (sp_is_guest K C) [] E0 (tCons (tVar 2) tNil)))) (fun _ _ H => E (.ref C.cNoGuest) none H) tNext)
def t_looked_through (K : PySem.W.Frag) (C : Cs) (E : XK) : TS :=
  (tSeq (tFor (iList K (tVar 0)) (gName 2) (t_looked_through_b1 K C E))
    (tSeq (tIfS (tTest (tOp rLt (tLenSet K (tVar 0)) (tCB (rLenS K) (tCons (tVar 0) tNil)))) (fun _ _ H => E (.ref C.cTwice) none H) tNext)
    (tIfS (tTest (tOp rGe (tCB (rLenS K) (tCons (tVar 0) tNil)) (tVar 1))) (fun _ _ H => E (.ref C.cFull) none H) tNext)))
def t_seated_b1 (K : PySem.W.Frag) (C : Cs) (E : XK) : TS :=
  (tDrop (tCall (sp_take_seat K C) [] E (tCons (tVar 2) (tCons (tVar 3) tNil))))
def t_seated (K : PySem.W.Frag) (C : Cs) (E : XK) : TS :=
  (tSeq (tDrop (tCall (sp_looked_through K C) [] E (tCons (tVar 0) (tCons (tVar 1) tNil))))
    (tSeq (tAsg (tOp rRep (tLst (tCons (tC .non) tNil)) (tVar 1)) (gName 2))
    (tSeq (tFor (iList K (tVar 0)) (gName 3) (t_seated_b1 K C E))
    (tRet (tVar 2)))))
def t_law_cell_at (K : PySem.W.Frag) (C : Cs) (E : XK) : TS :=
  (tSeq (tIfS (tTest (tOp rLt (tVar 1) (tCB (rLenS K) (tCons (tVar 0) tNil)))) (tRet (tOp (rIxL K) (tVar 0) (tVar 1))) tNext)
    (tRet (tC (.int 0))))
def t_law_whole (K : PySem.W.Frag) (C : Cs) (E : XK) : TS :=
  (tRet (tAndV (tCB (rIsA .int) (tCons (tVar 0) (tCons (tC (.ty "int")) tNil))) (tNotV (tCB (rIsA .bool) (tCons (tVar 0) (tCons (tC (.ty "bool")) tNil))))))
def t_law_home (K : PySem.W.Frag) (C : Cs) (E : XK) : TS :=
  (tRet (tOp rMod (tOp rMod (tOp rAdd (tOp rMul (tVar 0) (tC (.int 40503))) (tOp rFdv (tVar 0) (tC (.int 65536)))) (tC (.int 65536))) (tVar 1)))
def t_law_base (K : PySem.W.Frag) (C : Cs) (E : XK) : TS :=
  (tSeq (tIfS (tTest (tOp rEq (tOp rMod (tVar 0) (tC (.int 2))) (tC (.int 0)))) (tRet (tOp rMod (tOp rFdv (tVar 0) (tC (.int 2))) (tC (.int 10000000000000000000000000000000000000000000000000000000000)))) tNext)
    (tRet (tOp rMod (tOp rFdv (tVar 0) (tC (.int 2))) (tC (.int 70001)))))
def t_law_guest (K : PySem.W.Frag) (C : Cs) (E : XK) : TS :=
  (tSeq (tAsg (tOp rFdv (tVar 0) (tC (.int 5))) (gName 2))
    (tSeq (tIfS (tTest (tOp rEq (tOp rMod (tVar 0) (tC (.int 5))) (tC (.int 0)))) (tRet (tOp rMod (tVar 2) (tC (.int 1000000000000000000000000000000000000000000000000000000000000)))) tNext)
    (tSeq (tIfS (tTest (tOp rEq (tOp rMod (tVar 0) (tC (.int 5))) (tC (.int 1)))) (tRet (tOp rMod (tVar 2) (tC (.int 400)))) tNext)
    (tSeq (tIfS (tTest (tOp rEq (tOp rMod (tVar 0) (tC (.int 5))) (tC (.int 2)))) (tRet (tOp rAdd (tVar 1) (tOp rMul (tC (.int 4294967296)) (tOp rMod (tVar 2) (tC (.int 10000000000000000000000000000000000000000)))))) tNext)
    (tSeq (tIfS (tTest (tOp rEq (tOp rMod (tVar 0) (tC (.int 5))) (tC (.int 3)))) (tRet (tOp rAdd (tVar 1) (tOp rMul (tC (.int 65536)) (tOp rMod (tVar 2) (tC (.int 12)))))) tNext)
    (tRet (tOp rAdd (tOp rAdd (tVar 1) (tOp rMul (tC (.int 65536)) (tOp rMod (tVar 2) (tC (.int 3))))) (tOp rMul (tC (.int 4294967296)) (tOp rMod (tOp rFdv (tVar 2) (tC (.int 3))) (tC (.int 7)))))))))))
def t_law_drawn_b1 (K : PySem.W.Frag) (C : Cs) (E : XK) : TS :=
  (sDPut (tVar 2) (tCall (sp_law_guest K C) [] E0 (tCons (tVar 3) (tCons (tVar 1) tNil))) (tC (.bl true)))
def t_law_drawn (K : PySem.W.Frag) (C : Cs) (E : XK) : TS :=
  (tSeq (tAsg tDNewK (gName 2))
    (tSeq (tFor (iList K (tVar 0)) (gName 3) (t_law_drawn_b1 K C E))
    (tRet (tCB rListD (tCons (tVar 2) tNil)))))
def t_law_settled_b1 (K : PySem.W.Frag) (C : Cs) (E : XK) : TS :=
  (tIfS (tB (tNotN (tOp (rIxL K) (tVar 0) (tVar 3)))) (tSeq (tIfS (tNot (tB (tCall (sp_law_whole K C) [] E0 (tCons (tOp (rIxL K) (tVar 0) (tVar 3)) tNil)))) (tRet (tC (.bl false))) tNext)
    (tSeq (tAsg (tOp rMod (tOp rSub (tVar 3) (tCall (sp_law_home K C) [] E0 (tCons (tOp (rIxL K) (tVar 0) (tVar 3)) (tCons (tVar 1) tNil)))) (tVar 1)) (gName 4))
    (tSeq (tIfS (tAnd (tTest (tOp rGt (tVar 4) (tC (.int 0)))) (tB (tIsN (tOp (rIxL K) (tVar 0) (tOp rSub (tVar 3) (tC (.int 1))))))) (tRet (tC (.bl false))) tNext)
    (tIfS (tTest (tOp rGt (tVar 4) (tC (.int 0)))) (tSeq (tAsg (tOp rAdd (tOp rMod (tOp rSub (tOp rSub (tVar 3) (tC (.int 1))) (tCall (sp_law_home K C) [] E0 (tCons (tOp (rIxL K) (tVar 0) (tOp rSub (tVar 3) (tC (.int 1)))) (tCons (tVar 1) tNil)))) (tVar 1)) (tC (.int 1))) (gName 5))
    (tIfS (tOr (tTest (tOp rLt (tVar 5) (tVar 4))) (tAnd (tTest (tOp rEq (tVar 5) (tVar 4))) (tTest (tOp rGe (tOp (rIxL K) (tVar 0) (tOp rSub (tVar 3) (tC (.int 1)))) (tOp (rIxL K) (tVar 0) (tVar 3)))))) (tRet (tC (.bl false))) tNext)) tNext)))) tNext)
def t_law_settled (K : PySem.W.Frag) (C : Cs) (E : XK) : TS :=
  (tSeq (tIfS (tOr (tNot (tB (tCB (rIsA .list) (tCons (tVar 0) (tCons (tC (.ty "list")) tNil))))) (tOr (tTest (tOp rNe (tCB (rLenS K) (tCons (tVar 0) tNil)) (tVar 1))) (tTest (tOp (rIn K true) (tC .non) (tVar 0))))) (tRet (tC (.bl false))) tNext)
    (tSeq (tFor (iRng1 (tCons (tVar 1) tNil)) (gName 3) (t_law_settled_b1 K C E))
    (tRet (tOp (rEqD K) (tCB (rSortedI K) (tCons (tLc (iList K (tVar 0)) (gName 6) (tB (tNotN (tVar 6))) (tVar 6) [6]) tNil)) (tCB (rSortedI K) (tCons (tVar 2) tNil))))))
def t_law_same_b1 (K : PySem.W.Frag) (C : Cs) (E : XK) : TS :=
  (tSeq (tIfS (tAnd (tB (tNotN (tVar 2))) (tNot (tB (tCall (sp_law_whole K C) [] E0 (tCons (tVar 2) tNil))))) (tRet (tC (.bl false))) tNext)
    (tIfS (tTest (tOp rNe (tVar 2) (tVar 3))) (tRet (tC (.bl false))) tNext))
def t_law_same (K : PySem.W.Frag) (C : Cs) (E : XK) : TS :=
  (tSeq (tIfS (tOr (tNot (tB (tCB (rIsA .list) (tCons (tVar 0) (tCons (tC (.ty "list")) tNil))))) (tTest (tOp rNe (tCB (rLenS K) (tCons (tVar 0) tNil)) (tCB (rLenS K) (tCons (tVar 1) tNil))))) (tRet (tC (.bl false))) tNext)
    (tSeq (tFor (iZip K (tCons (tVar 0) (tCons (tVar 1) tNil))) (gTup K 2 (gCons (gName 2) (gCons (gName 3) gNil))) (t_law_same_b1 K C E))
    (tRet (tC (.bl true)))))
def t_law_turned_b1 (K : PySem.W.Frag) (C : Cs) (E : XK) : TS :=
  (tSeq (tAsg (tOp rMod (tOp rMod (tOp rMul (tOp rMod (tOp (rIxL K) (tVar 1) (tVar 4)) (tC (.int 1000000000000))) (tC (.int 48271))) (tC (.int 2147483629))) (tCB (rLenS K) (tCons (tVar 2) tNil))) (gName 5))
    (tDrop (tBM K "list" rAppend (tVar 3) (tCons (tBM K "list" rPopAt (tVar 2) (tCons (tVar 5) tNil)) tNil))))
def t_law_turned (K : PySem.W.Frag) (C : Cs) (E : XK) : TS :=
  (tSeq (tAsg (tCB (rListS K) (tCons (tVar 0) tNil)) (gName 2))
    (tSeq (tAsg (tLst tNil) (gName 3))
    (tSeq (tFor (iRng1 (tCons (tCB (rLenS K) (tCons (tVar 0) tNil)) tNil)) (gName 4) (t_law_turned_b1 K C E))
    (tRet (tVar 3)))))
def t_law_one_by_one_b1 (K : PySem.W.Frag) (C : Cs) (E : XK) : TS :=
  (tSeq (tAsg (tOp rMod (tOp rMul (tOp rMod (tOp (rIxL K) (tVar 2) (tVar 6)) (tC (.int 1000000000000))) (tC (.int 16807))) (tC (.int 2147483647))) (gName 7))
    (tSeq (tAsg (tCall (sp_law_guest K C) [] E0 (tCons (tOp rFdv (tVar 7) (tC (.int 6))) (tCons (tVar 3) tNil))) (gName 8))
    (tSeq (tIfS (tAnd (tB (tIsN (tVar 5))) (tAnd (tTest (tOp rEq (tOp rMod (tVar 7) (tC (.int 3))) (tC (.int 0)))) (tTest (tOp (rIn K true) (tVar 8) (tVar 0))))) (tSeq (tAsg (tVar 8) (gName 5))
    (tAsg (tCall (sp_seat_in K C) [] E0 (tCons (tVar 4) (tCons (tVar 5) tNil))) (gName 4))) tNext)
    (tSeq (tAsg (tCB (rListS K) (tCons (tVar 4) tNil)) (gName 9))
    (tSeq (tAsg (tCall (sp_seat_in K C) [] E0 (tCons (tVar 9) (tCons (tOp (rIxL K) (tVar 0) (tVar 6)) tNil))) (gName 4))
    (tSeq (tDrop (tBM0 K "list" rClear (tVar 9)))
    (tIfS (tAnd (tB (tNotN (tVar 5))) (tTest (tOp rEq (tOp rMod (tVar 7) (tC (.int 2))) (tC (.int 1))))) (tSeq (tAsg (tCall (sp_seat_out K C) [] E0 (tCons (tVar 4) (tCons (tVar 5) tNil))) (gName 4))
    (tAsg (tC .non) (gName 5))) tNext)))))))
def t_law_one_by_one (K : PySem.W.Frag) (C : Cs) (E : XK) : TS :=
  (tSeq (tAsg (tOp rRep (tLst (tCons (tC .non) tNil)) (tVar 1)) (gName 4))
    (tSeq (tAsg (tC .non) (gName 5))
    (tSeq (tFor (iRng1 (tCons (tCB (rLenS K) (tCons (tVar 0) tNil)) tNil)) (gName 6) (t_law_one_by_one_b1 K C E))
    (tSeq (tIfS (tB (tNotN (tVar 5))) (tAsg (tCall (sp_seat_out K C) [] E0 (tCons (tVar 4) (tCons (tVar 5) tNil))) (gName 4)) tNext)
    (tRet (tVar 4))))))
def t_law_odd (K : PySem.W.Frag) (C : Cs) (E : XK) : TS :=
  (tSeq (tAsg (tOp rMod (tOp rFdv (tVar 0) (tC (.int 13))) (tC (.int 10000000000000000000000000000000000000000))) (gName 1))
    (tSeq (tAsg (tLst (tCons (tC (.bl true)) (tCons (tC (.bl false)) (tCons (tC .non) (tCons (tC (.str (PySem.Str.ofString ""))) (tCons (tC (.str (PySem.Str.ofString "7"))) (tCons (tLst (tCons (tC (.int 7)) tNil)) (tCons (tTup (tCons (tC (.int 7)) tNil)) (tCons tDNewK (tCons (tUn rNeg (tC (.int 1))) (tCons (tC (.int 1000000000000000000000000000000000000000000000000000000000000)) (tCons (tOp rSub (tUn rNeg (tC (.int 2))) (tVar 1)) (tCons (tOp rAdd (tOp rAdd (tC (.int 1000000000000000000000000000000000000000000000000000000000000)) (tC (.int 1))) (tVar 1)) (tCons (tLst tNil) tNil)))))))))))))) (gName 2))
    (tRet (tOp (rIxL K) (tVar 2) (tOp rMod (tVar 0) (tC (.int 13)))))))
def t_law_refused_b1_try (K : PySem.W.Frag) (C : Cs) (E : XK) : WX → TS :=
  fun W => (tDrop (tCallS (sp_seated K C) (WE W) (tCons (tVar 0) (tCons (tVar 1) tNil))))
def t_law_refused_b1_exc (K : PySem.W.Frag) (C : Cs) (E : XK) : Addr → Value → Option Addr → TS :=
  fun a cls d => (tSeq (tAsg (tLst (tCons (tCB (rIsX C cls d a) (tCons (tVar 2) (tCons (tC (.ref C.cNoGuest)) tNil))) (tCons (tCB (rIsX C cls d a) (tCons (tVar 2) (tCons (tC (.ref C.cTwice)) tNil))) (tCons (tCB (rIsX C cls d a) (tCons (tVar 2) (tCons (tC (.ref C.cFull)) tNil))) tNil)))) (gName 3))
    (tSeq (tAsg (tOrV (tCB (rIsX C cls d a) (tCons (tVar 2) (tCons (tC (.ref C.cAway)) tNil))) (tCB (rIsX C cls d a) (tCons (tVar 2) (tCons (tC (.ref C.cNoSize)) tNil)))) (gName 4))
    (tRet (tOp rCat (tVar 3) (tLst (tCons (tAndV (tCB (rIsX C cls d a) (tCons (tVar 2) (tCons (tC (.ty "ValueError")) tNil))) (tNotV (tVar 4))) tNil))))))
def t_law_refused (K : PySem.W.Frag) (C : Cs) (E : XK) : TS :=
  (tSeq (tTryAs K C 2 (t_law_refused_b1_try K C E) (t_law_refused_b1_exc K C E) W0)
    (tRet (tLst tNil)))
def t_law_spoiled (K : PySem.W.Frag) (C : Cs) (E : XK) : TS :=
  (tSeq (tAsg (tOp rMod (tCall (sp_law_cell_at K C) [] E0 (tCons (tVar 0) (tCons (tC (.int 1)) tNil))) (tC (.int 8))) (gName 2))
    (tSeq (tAsg (tCB (rListS K) (tCons (tVar 1) tNil)) (gName 3))
    (tSeq (tAsg (tAndV (tOp rEq (tOp rMod (tOp rFdv (tVar 2) (tC (.int 2))) (tC (.int 2))) (tC (.int 1))) (tOp rGt (tCB (rLenS K) (tCons (tVar 1) tNil)) (tC (.int 0)))) (gName 4))
    (tSeq (tIfS (tB (tVar 4)) (tDrop (tBM K "list" rInsert (tVar 3) (tCons (tOp rMod (tCall (sp_law_cell_at K C) [] E0 (tCons (tVar 0) (tCons (tC (.int 2)) tNil))) (tOp rAdd (tCB (rLenS K) (tCons (tVar 1) tNil)) (tC (.int 1)))) (tCons (tOp (rIxL K) (tVar 1) (tOp rMod (tCall (sp_law_cell_at K C) [] E0 (tCons (tVar 0) (tCons (tC (.int 3)) tNil))) (tCB (rLenS K) (tCons (tVar 1) tNil)))) tNil)))) tNext)
    (tSeq (tIfS (tTest (tOp rEq (tOp rMod (tVar 2) (tC (.int 2))) (tC (.int 1)))) (tDrop (tBM K "list" rInsert (tVar 3) (tCons (tOp rMod (tOp rFdv (tCall (sp_law_cell_at K C) [] E0 (tCons (tVar 0) (tCons (tC (.int 3)) tNil))) (tC (.int 89))) (tOp rAdd (tCB (rLenS K) (tCons (tVar 3) tNil)) (tC (.int 1)))) (tCons (tCall (sp_law_odd K C) [] E0 (tCons (tCall (sp_law_cell_at K C) [] E0 (tCons (tVar 0) (tCons (tC (.int 4)) tNil))) tNil)) tNil)))) tNext)
    (tSeq (tAsg (tCB rMax2 (tCons (tC (.int 2)) (tCons (tOp rAdd (tOp rAdd (tCB (rLenS K) (tCons (tVar 3) tNil)) (tC (.int 1))) (tOp rMod (tOp rFdv (tCall (sp_law_cell_at K C) [] E0 (tCons (tVar 0) (tCons (tC (.int 4)) tNil))) (tC (.int 1009))) (tC (.int 5)))) tNil))) (gName 5))
    (tSeq (tAsg (tAndV (tOp rEq (tOp rFdv (tVar 2) (tC (.int 4))) (tC (.int 1))) (tOp rGt (tCB (rLenS K) (tCons (tVar 3) tNil)) (tC (.int 1)))) (gName 6))
    (tSeq (tIfS (tB (tVar 6)) (tAsg (tCB rMax2 (tCons (tC (.int 2)) (tCons (tOp rSub (tCB (rLenS K) (tCons (tVar 3) tNil)) (tOp rMod (tOp rFdv (tCall (sp_law_cell_at K C) [] E0 (tCons (tVar 0) (tCons (tC (.int 4)) tNil))) (tC (.int 1009))) (tC (.int 5)))) tNil))) (gName 5)) tNext)
    (tSeq (tAsg (tLst (tCons (tOp rEq (tOp rMod (tVar 2) (tC (.int 2))) (tC (.int 1))) (tCons (tAndV (tOp rEq (tOp rMod (tVar 2) (tC (.int 2))) (tC (.int 0))) (tVar 4)) (tCons (tAndV (tOp rEq (tOp rMod (tVar 2) (tC (.int 2))) (tC (.int 0))) (tAndV (tNotV (tVar 4)) (tVar 6))) tNil)))) (gName 7))
    (tRet (tLst (tCons (tVar 3) (tCons (tVar 5) (tCons (tVar 7) tNil))))))))))))))
def t_law (K : PySem.W.Frag) (C : Cs) (E : XK) : TS :=
  (tSeq (tAsg (tCall (sp_law_base K C) [] E0 (tCons (tCall (sp_law_cell_at K C) [] E0 (tCons (tVar 0) (tCons (tC (.int 0)) tNil))) tNil)) (gName 1))
    (tSeq (tAsg (tSl (rSlL K) (tVar 0) (tPart (tC (.int 5))) (tPart (tC (.int 89)))) (gName 2))
    (tSeq (tAsg (tCall (sp_law_drawn K C) [] E0 (tCons (tVar 2) (tCons (tVar 1) tNil))) (gName 3))
    (tSeq (tAsg (tCall (sp_law_spoiled K C) [] E0 (tCons (tVar 0) (tCons (tVar 3) tNil))) (gLst K 3 (gCons (gName 4) (gCons (gName 5) (gCons (gName 6) gNil)))))
    (tSeq (tAsg (tCB (rListS K) (tCons (tVar 4) tNil)) (gName 7))
    (tSeq (tIfS (tAnd (tTest (tOp (rIn K false) (tC (.bl true)) (tVar 6))) (tOr (tTest (tOp (rNeD K) (tCall (sp_law_refused K C) [] E0 (tCons (tVar 4) (tCons (tVar 5) tNil))) (tOp rCat (tVar 6) (tLst (tCons (tC (.bl true)) tNil))))) (tTest (tOp (rNeS K) (tVar 4) (tVar 7))))) (tRet (tC (.bl false))) tNext)
    (tSeq (tAsg (tOp rAdd (tOp rAdd (tCB (rLenS K) (tCons (tVar 3) tNil)) (tC (.int 2))) (tOp rMod (tOp rFdv (tCall (sp_law_cell_at K C) [] E0 (tCons (tVar 0) (tCons (tC (.int 2)) tNil))) (tC (.int 101))) (tC (.int 40)))) (gName 5))
    (tSeq (tAsg (tCB (rListS K) (tCons (tVar 3) tNil)) (gName 8))
    (tSeq (tAsg (tCall (sp_seated K C) [] E0 (tCons (tVar 8) (tCons (tVar 5) tNil))) (gName 9))
    (tSeq (tIfS (tOr (tNot (tB (tCall (sp_law_settled K C) [] E0 (tCons (tVar 9) (tCons (tVar 5) (tCons (tVar 3) tNil)))))) (tTest (tOp (rNeD K) (tVar 8) (tVar 3)))) (tRet (tC (.bl false))) tNext)
    (tSeq (tAsg (tCB (rListS K) (tCons (tVar 9) tNil)) (gName 10))
    (tSeq (tDrop (tBM0 K "list" rClear (tVar 8)))
    (tSeq (tAsg (tCall (sp_law_turned K C) [] E0 (tCons (tVar 3) (tCons (tVar 2) tNil))) (gName 11))
    (tSeq (tIfS (tOr (tNot (tB (tCall (sp_law_same K C) [] E0 (tCons (tCall (sp_seated K C) [] E0 (tCons (tVar 11) (tCons (tVar 5) tNil))) (tCons (tVar 10) tNil))))) (tNot (tB (tCall (sp_law_same K C) [] E0 (tCons (tCall (sp_law_one_by_one K C) [] E0 (tCons (tVar 11) (tCons (tVar 5) (tCons (tVar 2) (tCons (tVar 1) tNil))))) (tCons (tVar 10) tNil)))))) (tRet (tC (.bl false))) tNext)
    (tSeq (tAsg (tCB rMax2 (tCons (tC (.int 2)) (tCons (tOp rAdd (tOp rAdd (tCB (rLenS K) (tCons (tVar 3) tNil)) (tC (.int 1))) (tOp rMod (tOp rFdv (tCall (sp_law_cell_at K C) [] E0 (tCons (tVar 0) (tCons (tC (.int 3)) tNil))) (tC (.int 1013))) (tOp rSub (tC (.int 1024)) (tCB (rLenS K) (tCons (tVar 3) tNil))))) tNil))) (gName 12))
    (tSeq (tIfS (tNot (tB (tCall (sp_law_settled K C) [] E0 (tCons (tCall (sp_seated K C) [] E0 (tCons (tVar 3) (tCons (tVar 12) tNil))) (tCons (tVar 12) (tCons (tVar 3) tNil)))))) (tRet (tC (.bl false))) tNext)
    (tRet (tCall (sp_law_same K C) [] E0 (tCons (tVar 9) (tCons (tVar 10) tNil))))))))))))))))))))
end RS
namespace RS
open PySem PySem.Spec PyProof.Rows L2
section
variable {K : PySem.W.Frag} {C : Cs} {vs : List V} {H : Hp} {Q : VK} {E : XK}
theorem len_is_guest (h : sp_is_guest K C vs H Q E) : vs.length = (["thing"] : List Str).length := by
  unfold sp_is_guest at h
  repeat (obtain ⟨_, h⟩ := h)
  subst_vars; rfl
theorem pure_is_guest (XF : Facts K C) (h : sp_is_guest K C vs H Q E) : t_is_guest K C E { nx := fun _ H' => Q .non H', rt := Q } (start ["thing"] vs) H := by
  obtain ⟨x, s, rfl, ht, q⟩ := h
  have big : ∀ i : Int, isG (.int i) = (decide (0 ≤ i) && decide (i < 1000000000000000000000000000000000000000000000000000000000000)) := fun _ => rfl
  by_cases hx : ∃ i, x = .int i
  · obtain ⟨i, rfl⟩ := hx
    show tSeq _ _ _ [some (.int i)] H
    rw [big] at q
    walk_at "run"
    by_cases h0 : 0 ≤ i
    · rw [if_pos h0]
      rw [decide_eq_true h0, Bool.true_and] at q
      exact q
    · rw [if_neg h0]
      rw [decide_eq_false h0, Bool.false_and] at q
      exact q
  · have e : isG x = false := by
      cases x with
      | int i => exact absurd ⟨i, rfl⟩ hx
      | _ => rfl
    rw [e] at q
    have hs : ∀ b, (Ty.isA s .int = b) → (b = false ∨ Ty.isA s .bool = true) := by
      intro b hb
      cases x with
      | int i => exact absurd ⟨i, rfl⟩ hx
      | bl b => cases ht; exact .inr rfl
      | non => cases ht; exact .inl hb.symm
      | str z => cases ht; exact .inl hb.symm
      | byt b => cases ht
      | flt b => cases ht
      | ty n => cases ht
      | ref a =>
        have h' : (H a).bind hoTy = some s := ht
        cases e : H a with
        | none => rw [e] at h'; cases h'
        | some o =>
          rw [e] at h'
          have h2 : hoTy o = some s := h'
          cases o with
          | lst xs => cases h2; exact .inl hb.symm
          | tup xs => cases h2; exact .inl hb.symm
          | dK kvs => cases h2; exact .inl hb.symm
          | frz ob u =>
            cases u with
            | lst xs => cases h2; exact .inl hb.symm
            | _ => cases h2
          | _ => cases h2
    show tSeq _ _ _ [some x] H
    refine if_step (b := true) (H' := H) (fun R h => ?_) (fun _ => ?_) (fun e => nomatch e)
    · simp only [tOr, tNot, tB, tCB, tCons, tNil, tVar, tC, rIsA]
      refine ⟨x, rfl, x, s, rfl, ht, s.isA .int, rfl, ?_⟩
      refine iteB (fun _ => h) fun e1 => ?_
      refine ⟨x, rfl, x, s, rfl, ht, s.isA .bool, rfl, ?_⟩
      rcases hs _ rfl with e2 | e2
      · rw [e2] at e1; cases e1
      · rw [e2]; exact h
    · exact q
theorem len_home (h : sp_home K C vs H Q E) : vs.length = (["guest", "many"] : List Str).length := by
  unfold sp_home at h
  repeat (obtain ⟨_, h⟩ := h)
  subst_vars; rfl
theorem pure_home (XF : Facts K C) (h : sp_home K C vs H Q E) : t_home K C E { nx := fun _ H' => Q .non H', rt := Q } (start ["guest", "many"] vs) H := by
  obtain ⟨g, n, rfl, h0, q⟩ := h
  show tRet _ _ [some (.int g), some (.int n)] H
  walk_at "run"
  exact ⟨h0, q⟩
theorem len_carried (h : sp_carried K C vs H Q E) : vs.length = (["guest", "at", "many"] : List Str).length := by
  unfold sp_carried at h
  repeat (obtain ⟨_, h⟩ := h)
  subst_vars; rfl
theorem pure_carried (XF : Facts K C) (h : sp_carried K C vs H Q E) : t_carried K C E { nx := fun _ H' => Q .non H', rt := Q } (start ["guest", "at", "many"] vs) H := by
  obtain ⟨g, p, n, rfl, h0, q⟩ := h
  show tRet _ _ [some (.int g), some (.int p), some (.int n)] H
  walk_at "run"; unfold sp_home; walk_at "run"
  exact ⟨h0, h0, q⟩
theorem len_ahead (h : sp_ahead K C vs H Q E) : vs.length = (["one", "other", "at", "many"] : List Str).length := by
  unfold sp_ahead at h
  repeat (obtain ⟨_, h⟩ := h)
  subst_vars; rfl
theorem pure_ahead (XF : Facts K C) (h : sp_ahead K C vs H Q E) : t_ahead K C E { nx := fun _ H' => Q .non H', rt := Q } (start ["one", "other", "at", "many", "here", "there"] vs) H := by
  obtain ⟨a, b, p, n, rfl, h0, q⟩ := h
  show tSeq _ _ _ [some (.int a), some (.int b), some (.int p), some (.int n), none, none] H
  walk_at "run"; unfold sp_carried; walk_at "run"
  refine ⟨h0, h0, ?_⟩
  by_cases e : farI a p n = farI b p n
  · rw [if_neg (not_not_intro e)]
    rw [show decide (a < b) = aheadI a b p n from decide_eq_decide.mpr ⟨fun h => .inr ⟨e, h⟩, fun h => by omega⟩]
    exact q
  · rw [if_pos e]
    rw [show decide (farI a p n > farI b p n) = aheadI a b p n from decide_eq_decide.mpr ⟨fun h => .inl h, fun h => by omega⟩]
    exact q
theorem len_look_for (h : sp_look_for K C vs H Q E) : vs.length = (["seats", "guest"] : List Str).length := by
  unfold sp_look_for at h
  repeat (obtain ⟨_, h⟩ := h)
  subst_vars; rfl
theorem pure_look_for (XF : Facts K C) (h : sp_look_for K C vs H Q E) : t_look_for K C E { nx := fun _ H' => Q .non H', rt := Q } (start ["seats", "guest", "many", "at", "looked"] vs) H := by
  obtain ⟨a, n, f, x, s, rfl, hS, h1, hn, ⟨e, he, h0⟩, ht, qN, qY⟩ := h
  have hn0 : 0 < n := by omega
  have hh := hm_lt hn0
  show tSeq _ _ _ [some (.ref a), some x, none, none, none] H
  refine if_step (b := !isG x) (H' := H) (fun R h => ?_) (fun e1 => ?_) (fun e1 => ?_)
  · walk_at "run"; unfold sp_is_guest
    exact ⟨x, s, rfl, ht, ⟨_, rfl, h⟩⟩
  · exact qN (by simpa using e1)
  have hG : isG x = true := by simpa using e1
  obtain ⟨g, rfl⟩ := isG_int hG
  walk_at "nxt"
  refine asg_step (v := .int n) (H' := H) (fun R h => ?_) ?_
  · walk_at "run"; exact ⟨_, .inl hS, by rw [row_len]; exact h⟩
  walk_at "nxt"
  refine asg_step (v := .int (hm n g)) (H' := H) (fun R h => ?_) ?_
  · walk_at "run"; unfold sp_home; walk_at "run"; exact ⟨by omega, by rw [hm_is hn0]; exact h⟩
  walk_at "nxt"
  refine asg_step (v := .int 1) (H' := H) (fun R h => h) ?_
  walk_at "nxt"
  refine while_step (fun m σ H' => H' = H ∧ ∃ p : Nat, σ = [some (.ref a), some (.int g), some (.int n), some (.int p), some (.int ((Ring.far n (hm n g) p + 1 : Nat) : Int))] ∧ p < n ∧ Ring.Car n (hm n) f g p ∧ m = Ring.far n p e) ⟨_, rfl, hm n g, by rw [Ring.far_self]; rfl, hh g, Ring.car_home, rfl⟩ ?_
  rintro m σ H' ⟨rfl, p, rfl, hp, c, rfl⟩
  have fin : (∀ y, f p = some y → ¬ Ring.Ah n (hm n) y g p) → tRet (tTup (tCons (tVar 3) (tCons (tVar 4) tNil))) { nx := fun _ H' => Q .non H', rt := Q } [some (.ref a), some (.int g), some (.int n), some (.int p), some (.int ((Ring.far n (hm n g) p + 1 : Nat) : Int))] H' := fun l => by
    walk_at "run"
    exact ⟨sizes (by decide), fun t ht => qY g rfl hG _ _ p (same_new ht) hp ⟨c, l⟩ upd_same⟩
  cases hy : f p with
  | none =>
    refine ⟨false, fun R h => ?_, (fun z => nomatch z), fun _ => fin fun y h => by rw [hy] at h; cases h⟩
    walk_at "run"; exact ⟨_, hS, _, row_at hp, by rw [hy]; exact h⟩
  | some y =>
    have hpe : p ≠ e := fun z => by rw [z, h0] at hy; cases hy
    by_cases A : Ring.Ah n (hm n) y g p
    · refine ⟨true, fun R h => ?_, fun _ => ?_, (fun z => nomatch z)⟩
      · walk_at "run"; refine ⟨_, hS, _, row_at hp, ?_⟩
        rw [hy]; walk_at "run"; refine ⟨_, hS, _, row_at hp, ?_⟩
        rw [hy]; unfold sp_ahead; walk_at "run"
        rw [ahead_is hp, decide_eq_true A]; exact ⟨by omega, h⟩
      unfold t_look_for_b1
      refine asg_step (v := .int (Ring.nx n p)) (H' := H') (fun R h => ?_) ?_
      · walk_at "run"; exact ⟨by omega, by rw [nx_is hp]; exact h⟩
      walk_at "nxt"
      have hx := Ring.far_nx (hh g) hp (Ring.no_wrap hh hp he h0 c (by rw [hy]; simp))
      refine asg_step (v := .int ((Ring.far n (hm n g) (Ring.nx n p) + 1 : Nat) : Int)) (H' := H') (fun R h => ?_) ?_
      · walk_at "run"; rw [hx] at h; push_cast at h ⊢; exact h
      have ft := Ring.far_to hp he hpe
      exact ⟨_, by omega, rfl, _, rfl, Ring.nx_lt hp, Ring.car_nx hh hp c hy A, rfl⟩
    · refine ⟨false, fun R h => ?_, (fun z => nomatch z), fun _ => fin fun y' h => by rw [hy] at h; cases h; exact A⟩
      walk_at "run"; refine ⟨_, hS, _, row_at hp, ?_⟩
      rw [hy]; walk_at "run"; refine ⟨_, hS, _, row_at hp, ?_⟩
      rw [hy]; unfold sp_ahead; walk_at "run"
      rw [ahead_is hp, decide_eq_false A]; exact ⟨by omega, h⟩
theorem len_place_of (h : sp_place_of K C vs H Q E) : vs.length = (["seats", "guest"] : List Str).length := by
  unfold sp_place_of at h
  repeat (obtain ⟨_, h⟩ := h)
  subst_vars; rfl
theorem pure_place_of (XF : Facts K C) (h : sp_place_of K C vs H Q E) : t_place_of K C E { nx := fun _ H' => Q .non H', rt := Q } (start ["seats", "guest", "at"] vs) H := by
  obtain ⟨a, n, f, x, s, rfl, hS, h1, hn, he, ht, qN, qY⟩ := h
  show tSeq _ _ _ [some (.ref a), some x, none] H
  by_cases hG : isG x = true
  · obtain ⟨g, rfl⟩ := isG_int hG
    refine asg_any (fun v H' => Same H H' ∧ ∃ p : Nat, v = .int p ∧ p < n ∧ Ring.Loc n (hm n) f g p) (fun R h => ?_) ?_
    · walk_at "run"; unfold sp_look_for
      refine ⟨a, n, f, _, s, rfl, hS, h1, hn, he, ht, fun z => ?_, fun g' e _ H' t p sm hp l e2 => ?_⟩
      · rw [hG] at z; cases z
      · cases e
        exact ⟨_, rfl, _, .inl (.inl e2), _, rfl, h _ _ ⟨sm, p, rfl, hp, l⟩⟩
    rintro v H' ⟨sm, p, rfl, hp, l⟩
    have q := qY g rfl hG H' p sm hp l
    walk_at "nxt"
    refine if_step (b := decide (f p = some g)) (H' := H') (fun R h => ?_) (fun e => ?_) (fun e => ?_)
    · walk_at "run"; refine ⟨_, sm.seq hS, _, row_at hp, ?_⟩
      cases hy : f p with
      | none => rw [hy] at h; walk_at "run"; simpa using h
      | some y => rw [hy] at h; walk_at "run"; simpa using h
    · rw [if_pos (of_decide_eq_true e)] at q
      walk_at "run"; exact q
    · rw [if_neg (of_decide_eq_false e)] at q
      walk_at "run"; exact q
  · refine asg_any (fun _ _ => False) (fun R h => ?_) fun _ _ z => z.elim
    walk_at "run"; unfold sp_look_for
    exact ⟨a, n, f, x, s, rfl, hS, h1, hn, he, ht, fun z => qN z, fun g' e z => absurd z hG⟩
theorem len_take_seat (h : sp_take_seat K C vs H Q E) : vs.length = (["seats", "guest"] : List Str).length := by
  unfold sp_take_seat at h
  repeat (obtain ⟨_, h⟩ := h)
  subst_vars; rfl
theorem pure_take_seat (XF : Facts K C) (h : sp_take_seat K C vs H Q E) : t_take_seat K C E { nx := fun _ H' => Q .non H', rt := Q } (start ["seats", "guest", "at", "found", "other"] vs) H := by
  obtain ⟨a, n, f, g, rfl, hS, h2, hn, P, ⟨e, he, h0⟩, ng, hG, q⟩ := h
  have hn0 : 0 < n := by omega
  have hh := hm_lt hn0
  show tSeq _ _ _ [some (.ref a), some (.int g), none, none, none] H
  refine asg_any (fun v H' => Same H H' ∧ ∃ p : Nat, v = .int p ∧ p < n ∧ Ring.Loc n (hm n) f g p) (fun R h => ?_) ?_
  · walk_at "run"; unfold sp_look_for
    refine ⟨a, n, f, _, .int, rfl, .inl (.inl hS), by omega, hn, ⟨e, he, h0⟩, rfl, (fun z => by rw [hG] at z; cases z), fun g' e1 _ H' t p sm hp l e2 => ?_⟩
    cases e1
    exact ⟨_, rfl, _, .inl (.inl e2), _, rfl, h _ _ ⟨sm, p, rfl, hp, l⟩⟩
  rintro v H1 ⟨s1, p0, rfl, hp0, l0⟩
  have hS1 := s1 _ _ hS
  walk_at "nxt"
  refine asg_step (v := .int p0) (H' := H1) (fun R h => ⟨_, rfl, h⟩) ?_
  walk_at "nxt"
  refine while_step (fun m σ H' => ∃ (f' : Nat → Option Int) (g' : Option Int) (p : Nat) (x : Option V), H' = upd H1 a (.lst (row n f')) ∧ σ = [some (.ref a), some (ov g'), some (.int p), some (.int p0), x] ∧ Ring.Path n (hm n) f' ∧
      ((g' = none ∧ m = 0 ∧ f' p0 = some g ∧ ∀ x, Ring.Sits n f' x ↔ Ring.Sits n f x ∨ x = g) ∨
        ∃ g1, g' = some g1 ∧ m = Ring.far n p e + 1 ∧ p < n ∧ Ring.Car n (hm n) f' g1 p ∧ f' e = none ∧ ¬ Ring.Sits n f' g1 ∧ (∀ y, f' p = some y → Ring.Ah n (hm n) g1 y p) ∧ (∀ x, (Ring.Sits n f' x ∨ x = g1) ↔ (Ring.Sits n f x ∨ x = g)) ∧
          ((p = p0 ∧ g1 = g) ∨ (f' p0 = some g ∧ Ring.far n p e < Ring.far n p0 e))))
    ⟨_, f, some g, p0, none, (upd_id hS1).symm, rfl, P, .inr ⟨g, rfl, rfl, hp0, l0.1, h0, ng, fun y hy => Ring.ah_tot (l0.2 y hy) (fun z => ng (z ▸ ⟨p0, hp0, hy⟩)), fun _ => Iff.rfl, .inl ⟨rfl, rfl⟩⟩⟩ ?_
  rintro m σ H' ⟨f', g', p, x, rfl, rfl, P', hc⟩
  have hS' : SqL K (upd H1 a (.lst (row n f'))) a (row n f') := .inl (.inl upd_same)
  rcases hc with ⟨rfl, rfl, hp, st⟩ | ⟨g1, rfl, rfl, hp, c, h0', ng', ah, st, tr⟩
  · refine ⟨false, fun R h => ?_, (fun z => nomatch z), fun _ => ?_⟩
    · walk_at "run"; exact h
    · walk_at "run"
      exact q _ f' p0 ((Off.same s1).trans Off.upd) upd_same P' st hp0 hp
  refine ⟨true, fun R h => ?_, fun _ => ?_, (fun z => nomatch z)⟩
  · walk_at "run"; exact h
  unfold t_take_seat_b1
  refine asg_step (v := ov (f' p)) (H' := upd H1 a (.lst (row n f'))) (fun R h => ?_) ?_
  · walk_at "run"; exact ⟨_, hS', _, row_at hp, h⟩
  walk_at "nxt"
  refine set_step (v := ov (some g1)) (H' := upd H1 a (.lst (row n f'))) (fun R h => ⟨_, rfl, h⟩) (fun R h => ⟨_, rfl, h⟩) (fun R h => ⟨_, rfl, h⟩) upd_same (row_ix hp) ?_
  rw [upd_upd, row_set]
  walk_at "nxt"
  refine asg_step (v := ov (f' p)) (H' := upd H1 a (.lst (row n (Ring.fup f' p (some g1))))) (fun R h => ⟨_, rfl, h⟩) ?_
  walk_at "nxt"
  refine asg_step (v := .int (Ring.nx n p)) (H' := upd H1 a (.lst (row n (Ring.fup f' p (some g1))))) (fun R h => ?_) ?_
  · walk_at "run"
    refine ⟨_, .inl (.inl (.inl upd_same)), ?_⟩
    rw [row_len]; exact ⟨by omega, by rw [nx_is hp]; exact h⟩
  have keep : Ring.fup f' p (some g1) p0 = some g := by
    rcases tr with ⟨e1, e2⟩ | ⟨e1, e2⟩
    · rw [e1, e2]; exact Ring.fup_same
    · have : p0 ≠ p := fun z => by rw [z] at e2; omega
      rw [Ring.fup_ne this]; exact e1
  cases hy : f' p with
  | none => exact ⟨0, by omega, _, none, _, _, rfl, rfl, Ring.step_put P' c hy, .inl ⟨rfl, rfl, keep, fun x => (Ring.sits_put hp hy x).trans (st x)⟩⟩
  | some y =>
    have hpe : p ≠ e := fun z => by rw [z, h0'] at hy; cases hy
    have ft := Ring.far_to hp he hpe
    obtain ⟨P2, c2⟩ := Ring.step_swap hh hp P' c hy (ah y hy)
    refine ⟨_, by omega, _, some y, _, _, rfl, rfl, P2, .inr ⟨y, rfl, rfl, Ring.nx_lt hp, c2, by rw [Ring.fup_ne (fun z => hpe z.symm)]; exact h0', Ring.swap_out hh P' hp hy ng', fun z hz => ?_, fun x => (Ring.sits_swap hp hy x).trans (st x), .inr ⟨keep, ?_⟩⟩⟩
    · rw [Ring.fup_ne (Ring.nx_ne h2 hp)] at hz
      exact Ring.push_next h2 hh hp he h0' P' hy hz
    · rcases tr with ⟨e1, e2⟩ | ⟨e1, e2⟩
      · rw [← e1]; omega
      · omega
theorem len_leave_seat (h : sp_leave_seat K C vs H Q E) : vs.length = (["seats", "at"] : List Str).length := by
  unfold sp_leave_seat at h
  repeat (obtain ⟨_, h⟩ := h)
  subst_vars; rfl
theorem pure_leave_seat (XF : Facts K C) (h : sp_leave_seat K C vs H Q E) : t_leave_seat K C E { nx := fun _ H' => Q .non H', rt := Q } (start ["seats", "at", "many", "behind"] vs) H := by
  obtain ⟨a, n, f, p, g, rfl, hS, h2, hn, P, ⟨e, he, h0⟩, hp, hf, q⟩ := h
  have hn0 : 0 < n := by omega
  have hh := hm_lt hn0
  show tSeq _ _ _ [some (.ref a), some (.int p), none, none] H
  refine asg_step (v := .int n) (H' := H) (fun R h => ?_) ?_
  · walk_at "run"; exact ⟨_, .inl (.inl (.inl hS)), by rw [row_len]; exact h⟩
  walk_at "nxt"
  refine asg_step (v := .int (Ring.nx n p)) (H' := H) (fun R h => ?_) ?_
  · walk_at "run"; exact ⟨by omega, by rw [nx_is hp]; exact h⟩
  walk_at "nxt"
  refine while_step (fun m σ H' => ∃ (f' : Nat → Option Int) (o : Nat) (w : Int), H' = upd H a (.lst (row n f')) ∧ σ = [some (.ref a), some (.int o), some (.int n), some (.int (Ring.nx n o))] ∧ o < n ∧ Ring.PathX n (hm n) f' o ∧ f' o = some w ∧ f' e = none ∧ (∀ x, Ring.SitsX n f' o x ↔ Ring.Sits n f x ∧ x ≠ g) ∧ m = Ring.far n o e)
    ⟨_, f, p, g, (upd_id hS).symm, rfl, hp, Ring.pathX_of P p, hf, h0, Ring.sitsX_of hh P hp hf, rfl⟩ ?_
  rintro m σ H' ⟨f', o, w, rfl, rfl, ho, PX, hw, h0', st, rfl⟩
  have hS' : SqL K (upd H a (.lst (row n f'))) a (row n f') := .inl (.inl upd_same)
  have hx := Ring.nx_lt ho
  have hoe : o ≠ e := fun z => by rw [z, h0'] at hw; cases hw
  have fin : (∀ y, f' (Ring.nx n o) = some y → hm n y = Ring.nx n o) → tAsg (tC .non) (gSub (tVar 0) (tVar 1) rSetL) { nx := fun _ H' => Q .non H', rt := Q } [some (.ref a), some (.int o), some (.int n), some (.int (Ring.nx n o))] (upd H a (.lst (row n f'))) := fun l => by
    refine set_step (v := ov none) (H' := upd H a (.lst (row n f'))) (fun R h => h) (fun R h => ⟨_, rfl, h⟩) (fun R h => ⟨_, rfl, h⟩) upd_same (row_ix ho) ?_
    rw [upd_upd, row_set]
    exact q _ (Ring.out_end h2 hh ho PX l) fun x => (Ring.outEnd_sits x).trans (st x)
  cases hy : f' (Ring.nx n o) with
  | none =>
    refine ⟨false, fun R h => ?_, (fun z => nomatch z), fun _ => fin fun y z => by rw [hy] at z; cases z⟩
    walk_at "run"; exact ⟨_, hS', _, row_at hx, by rw [hy]; exact h⟩
  | some y =>
    by_cases hm0 : hm n y = Ring.nx n o
    · refine ⟨false, fun R h => ?_, (fun z => nomatch z), fun _ => fin fun y' z => by rw [hy] at z; cases z; exact hm0⟩
      walk_at "run"; refine ⟨_, hS', _, row_at hx, ?_⟩
      rw [hy]; walk_at "run"; refine ⟨_, hS', _, row_at hx, ?_⟩
      rw [hy]; unfold sp_carried; walk_at "run"
      refine ⟨by omega, ?_⟩
      rw [far_is hx, hm0, Ring.far_self]; exact h
    · refine ⟨true, fun R h => ?_, fun _ => ?_, (fun z => nomatch z)⟩
      · walk_at "run"; refine ⟨_, hS', _, row_at hx, ?_⟩
        rw [hy]; walk_at "run"; refine ⟨_, hS', _, row_at hx, ?_⟩
        rw [hy]; unfold sp_carried; walk_at "run"
        refine ⟨by omega, ?_⟩
        have : Ring.far n (hm n y) (Ring.nx n o) ≠ 0 := fun z => hm0 (Ring.far_zero (hh y) z).symm
        rw [far_is hx, decide_eq_true (by omega)]; exact h
      unfold t_leave_seat_b1
      refine set_step (v := ov (some y)) (H' := upd H a (.lst (row n f'))) (fun R h => ?_) (fun R h => ⟨_, rfl, h⟩) (fun R h => ⟨_, rfl, h⟩) upd_same (row_ix ho) ?_
      · walk_at "run"; exact ⟨_, hS', _, row_at hx, by rw [hy]; exact h⟩
      rw [upd_upd, row_set]
      walk_at "nxt"
      refine asg_step (v := .int (Ring.nx n o)) (H' := upd H a (.lst (row n (Ring.fup f' o (some y))))) (fun R h => ⟨_, rfl, h⟩) ?_
      walk_at "nxt"
      refine asg_step (v := .int (Ring.nx n (Ring.nx n o))) (H' := upd H a (.lst (row n (Ring.fup f' o (some y))))) (fun R h => ?_) ?_
      · walk_at "run"; exact ⟨by omega, by rw [nx_is hx]; exact h⟩
      have ft := Ring.far_to ho he hoe
      exact ⟨_, by omega, _, _, y, rfl, rfl, hx, Ring.out_step h2 hh ho PX hw hy hm0, by rw [Ring.fup_ne (Ring.nx_ne h2 ho)]; exact hy, by rw [Ring.fup_ne (fun z => hoe z.symm)]; exact h0', fun x => (Ring.out_sits h2 ho hy x).trans (st x), rfl⟩
theorem len_seat_in (h : sp_seat_in K C vs H Q E) : vs.length = (["seats", "guest"] : List Str).length := by
  unfold sp_seat_in at h
  repeat (obtain ⟨_, h⟩ := h)
  subst_vars; rfl
theorem pure_seat_in (XF : Facts K C) (h : sp_seat_in K C vs H Q E) : t_seat_in K C E { nx := fun _ H' => Q .non H', rt := Q } (start ["seats", "guest", "made"] vs) H := by
  obtain ⟨a, n, f, x, s, rfl, hS, h2, hn, P, he, ht, qN, qY⟩ := h
  have hn0 : 0 < n := by omega
  have hh := hm_lt hn0
  show tSeq _ _ _ [some (.ref a), some x, none] H
  by_cases hG : isG x = true
  case neg =>
    refine if_any (b := true) (fun _ => False) (fun R h => ?_) (fun _ _ z => z.elim) (fun _ _ z => z.elim)
    walk_at "run"; unfold sp_place_of
    exact ⟨a, n, f, x, s, rfl, hS, by omega, hn, he, ht, fun z => qN z, fun g' e z => absurd z hG⟩
  obtain ⟨g, rfl⟩ := isG_int hG
  obtain ⟨q1, q2, q3⟩ := qY g rfl hG
  by_cases st : Ring.Sits n f g
  · refine if_ext (b := true) (fun R h => ?_) (fun _ H1 s1 => q1 st H1 s1) (fun z => nomatch z)
    walk_at "run"; unfold sp_place_of
    refine ⟨a, n, f, _, s, rfl, hS, by omega, hn, he, ht, (fun z => by rw [hG] at z; cases z), fun g' e _ H' p sm hp l => ?_⟩
    cases e
    rw [if_pos ((Ring.loc_sits hh P hp l).mp st)]; walk_at "run"; exact h _ sm
  refine if_ext (b := false) (fun R h => ?_) (fun z => nomatch z) (fun _ H1 s1 => ?_)
  · walk_at "run"; unfold sp_place_of
    refine ⟨a, n, f, _, s, rfl, hS, by omega, hn, he, ht, (fun z => by rw [hG] at z; cases z), fun g' e _ H' p sm hp l => ?_⟩
    cases e
    rw [if_neg (fun z => st ((Ring.loc_sits hh P hp l).mpr z))]; walk_at "run"; exact h _ sm
  walk_at "nxt"
  refine if_step (b := decide (Ring.em n f < 2)) (H' := H1) (fun R h => ?_) (fun e => ?_) (fun e => ?_)
  · unfold tBM; walk_at "run"
    refine ⟨ty_list (s1.seq hS), a, _, _, rfl, rfl, s1.seq hS, rfl, row_flat, ?_⟩
    rw [cnt_none]
    refine ⟨_, rfl, ?_⟩
    rw [show decide ((Ring.em n f : Int) < 2) = decide (Ring.em n f < 2) from decide_eq_decide.mpr (by omega)]
    exact h
  · exact q2 st (of_decide_eq_true e) H1 s1
  have hem : 2 ≤ Ring.em n f := by have := of_decide_eq_false e; omega
  walk_at "nxt"
  refine asg_any (fun v H' => ∃ t, v = .ref t ∧ H1 t = none ∧ H' = upd H1 t (.lst (row n f))) (fun R h => ?_) ?_
  · walk_at "run"; exact ⟨_, .inl (s1.seq hS), fun p hp => h _ _ ⟨p, rfl, hp, rfl⟩⟩
  rintro v H2 ⟨t, rfl, h0, rfl⟩
  walk_at "nxt"
  refine drop_any (fun v H' => ∃ f', Off t (upd H1 t (.lst (row n f))) H' ∧ H' t = some (.lst (row n f')) ∧ Ring.Path n (hm n) f' ∧ (∀ y, Ring.Sits n f' y ↔ Ring.Sits n f y ∨ y = g)) (fun R h => ?_) ?_
  · walk_at "run"; unfold sp_take_seat
    exact ⟨t, n, f, g, rfl, upd_same, h2, hn, P, he, st, hG, fun H' f' p of e P' st' _ _ => h _ _ ⟨f', of, e, P', st'⟩⟩
  rintro v H3 ⟨f', of, e3, P', st'⟩
  walk_at "run"
  refine q3 st hem H3 t f' (s1.trans fun b o hb => ?_) e3 (s1.free h0) P' st'
  have hbt : b ≠ t := fun z => by rw [z, h0] at hb; cases hb
  exact of b o hbt (by rw [upd_ne hbt]; exact hb)
theorem len_seat_out (h : sp_seat_out K C vs H Q E) : vs.length = (["seats", "guest"] : List Str).length := by
  unfold sp_seat_out at h
  repeat (obtain ⟨_, h⟩ := h)
  subst_vars; rfl
theorem pure_seat_out (XF : Facts K C) (h : sp_seat_out K C vs H Q E) : t_seat_out K C E { nx := fun _ H' => Q .non H', rt := Q } (start ["seats", "guest", "at", "made"] vs) H := by
  obtain ⟨a, n, f, x, s, rfl, hS, h2, hn, P, he, ht, qN, qY⟩ := h
  have hn0 : 0 < n := by omega
  have hh := hm_lt hn0
  show tSeq _ _ _ [some (.ref a), some x, none, none] H
  by_cases hG : isG x = true
  case neg =>
    refine asg_any (fun _ _ => False) (fun R h => ?_) (fun _ _ z => z.elim)
    walk_at "run"; unfold sp_place_of
    exact ⟨a, n, f, x, s, rfl, hS, by omega, hn, he, ht, fun z => qN z, fun g' e z => absurd z hG⟩
  obtain ⟨g, rfl⟩ := isG_int hG
  obtain ⟨q1, q2⟩ := qY g rfl hG
  refine asg_any (fun v H' => Same H H' ∧ ∃ p : Nat, p < n ∧ Ring.Loc n (hm n) f g p ∧ v = if f p = some g then .int p else .non) (fun R h => ?_) ?_
  · walk_at "run"; unfold sp_place_of
    refine ⟨a, n, f, _, s, rfl, hS, by omega, hn, he, ht, (fun z => by rw [hG] at z; cases z), fun g' e _ H' p sm hp l => ?_⟩
    cases e
    exact h _ _ ⟨sm, p, hp, l, rfl⟩
  rintro v H1 ⟨s1, p, hp, l, hv⟩
  walk_at "nxt"
  by_cases st : f p = some g
  case neg =>
    rw [if_neg st] at hv; subst hv
    refine if_step (b := true) (H' := H1) (fun R h => ?_) (fun _ => q1 (fun z => st ((Ring.loc_sits hh P hp l).mp z)) H1 s1) (fun z => nomatch z)
    walk_at "run"; exact h
  rw [if_pos st] at hv; subst hv
  refine if_step (b := false) (H' := H1) (fun R h => ?_) (fun z => nomatch z) (fun _ => ?_)
  · walk_at "run"; exact h
  walk_at "nxt"
  refine asg_any (fun v H' => ∃ t, v = .ref t ∧ H1 t = none ∧ H' = upd H1 t (.lst (row n f))) (fun R h => ?_) ?_
  · walk_at "run"; exact ⟨_, .inl (s1.seq hS), fun p hp => h _ _ ⟨p, rfl, hp, rfl⟩⟩
  rintro v H2 ⟨t, rfl, h0, rfl⟩
  walk_at "nxt"
  refine drop_any (fun v H' => ∃ f', H' = upd (upd H1 t (.lst (row n f))) t (.lst (row n f')) ∧ Ring.Path n (hm n) f' ∧ (∀ y, Ring.Sits n f' y ↔ Ring.Sits n f y ∧ y ≠ g)) (fun R h => ?_) ?_
  · walk_at "run"; unfold sp_leave_seat
    exact ⟨t, n, f, p, g, rfl, upd_same, h2, hn, P, he, hp, st, fun f' P' st' => h _ _ ⟨f', rfl, P', st'⟩⟩
  rintro v H3 ⟨f', rfl, P', st'⟩
  rw [upd_upd]
  walk_at "run"
  exact q2 ⟨p, hp, st⟩ _ t f' (s1.trans (same_new h0)) upd_same (s1.free h0) P' st'
theorem len_looked_through (h : sp_looked_through K C vs H Q E) : vs.length = (["guests", "many"] : List Str).length := by
  unfold sp_looked_through at h
  repeat (obtain ⟨_, h⟩ := h)
  subst_vars; rfl
theorem pure_looked_through (XF : Facts K C) (h : sp_looked_through K C vs H Q E) : t_looked_through K C E { nx := fun _ H' => Q .non H', rt := Q } (start ["guests", "many", "guest"] vs) H := by
  obtain ⟨a, xs, n, rfl, hS, hl, hty, qN, qY⟩ := h
  show tSeq _ _ _ [some (.ref a), some (.int n), none] H
  refine for_lst (a := a) (xs := xs) (H' := H) (fun R h => ⟨_, rfl, h⟩) hS (fun k σ H' => H' = H ∧ (∃ x, σ = [some (.ref a), some (.int n), x]) ∧ ∀ j, j < k → ∀ x, xs[j]? = some x → isG x = true) ⟨rfl, ⟨_, rfl⟩, fun j hj => by omega⟩ (fun k σ H' _ h => h.1 ▸ hS) ?_ ?_
  · rintro k x σ H' hk ⟨rfl, ⟨y, rfl⟩, ih⟩
    have hm := List.mem_of_getElem? hk
    obtain ⟨s, hs⟩ := hty x hm
    unfold t_looked_through_b1
    unfold gName
    walk_at "nxt"
    refine if_step (b := !isG x) (H' := H') (fun R h => ?_) (fun e => ?_) (fun e => ?_)
    · walk_at "run"; unfold sp_is_guest; exact ⟨x, s, rfl, hs, _, rfl, h⟩
    · exact qN ⟨x, hm, by simpa using e⟩
    · refine ⟨rfl, ⟨_, rfl⟩, fun j hj z hz => ?_⟩
      by_cases w : j = k
      · rw [w, hk] at hz; cases hz; simpa using e
      · exact ih j (by omega) z hz
  rintro σ H' ⟨rfl, ⟨y, rfl⟩, all⟩
  obtain ⟨gs, rfl, hg⟩ := all_ints fun x hx => by
    obtain ⟨j, hj⟩ := List.mem_iff_getElem?.mp hx
    exact all j (List.getElem?_eq_some_iff.mp hj).1 x hj
  obtain ⟨q1, q2, q3⟩ := qY gs rfl hg
  rw [List.length_map] at hl
  walk_at "nxt"
  refine if_step (b := decide ((dist gs).length < gs.length)) (H' := H') (fun R h => ?_) (fun e => ?_) (fun e => ?_)
  · unfold tLenSet; walk_at "run"
    refine ⟨gs, hS, by omega, ?_⟩
    refine ⟨_, .inl hS, ?_⟩
    rw [List.length_map]
    rw [show decide (((dist gs).length : Int) < (gs.length : Int)) = decide ((dist gs).length < gs.length) from decide_eq_decide.mpr (by omega)]; exact h
  · refine q1 fun nd => ?_
    have := of_decide_eq_true e
    rw [dist_nodup nd] at this; omega
  have nd : gs.Nodup := Classical.byContradiction fun z => by have := dist_short z; have := of_decide_eq_false e; omega
  walk_at "nxt"
  refine if_step (b := decide (n ≤ gs.length)) (H' := H') (fun R h => ?_) (fun e => q2 nd (of_decide_eq_true e)) (fun e => q3 nd (by have := of_decide_eq_false e; omega))
  walk_at "run"; refine ⟨_, .inl hS, ?_⟩
  rw [List.length_map, show decide ((gs.length : Int) ≥ (n : Int)) = decide (n ≤ gs.length) from decide_eq_decide.mpr (by omega)]; exact h
theorem len_seated (h : sp_seated K C vs H Q E) : vs.length = (["guests", "many"] : List Str).length := by
  unfold sp_seated at h
  repeat (obtain ⟨_, h⟩ := h)
  subst_vars; rfl
theorem pure_seated (XF : Facts K C) (h : sp_seated K C vs H Q E) : t_seated K C E { nx := fun _ H' => Q .non H', rt := Q } (start ["guests", "many", "seats", "guest"] vs) H := by
  obtain ⟨a, xs, n, rfl, hS, hl, n2, n3, hty, qN, qY⟩ := h
  show tSeq _ _ _ [some (.ref a), some (.int n), none, none] H
  refine drop_any (fun v H' => H' = H ∧ ∃ gs : List Int, xs = gs.map V.int ∧ (∀ g ∈ gs, isG (.int g) = true) ∧ gs.Nodup ∧ gs.length < n) (fun R h => ?_) ?_
  · walk_at "run"; unfold sp_looked_through
    exact ⟨a, xs, n, rfl, hS, hl, hty, qN, fun gs e hg => ⟨(qY gs e hg).1, (qY gs e hg).2.1, fun nd lt => h _ _ ⟨rfl, gs, e, hg, nd, lt⟩⟩⟩
  rintro _ H1 ⟨rfl, gs, rfl, hg, nd, lt⟩
  have q := (qY gs rfl hg).2.2 nd lt
  walk_at "nxt"
  refine asg_any (fun v H' => Same H1 H' ∧ ∃ s, v = .ref s ∧ H' s = some (.lst (row n fun _ => none)) ∧ H1 s = none) (fun R h => ?_) ?_
  · walk_at "run"
    refine ⟨sizes (by decide), fun p1 h1 => ⟨_, upd_same, by omega, by omega, ?_, fun p2 hp2 => ?_⟩⟩
    · have := sizes (n := n) (by omega); simpa using this
    rw [Int.toNat_natCast, row_none]
    exact h _ _ ⟨(same_new h1).trans (same_new hp2), p2, rfl, upd_same, (same_new h1).free hp2⟩
  rintro _ H2 ⟨s2, s, rfl, hs2, f1⟩
  walk_at "nxt"
  refine for_lst (a := a) (xs := gs.map V.int) (H' := H2) (fun R h => ⟨_, rfl, h⟩) (s2.seq hS)
    (fun j σ H' => ∃ (f : Nat → Option Int) (x : Option V), σ = [some (.ref a), some (.int n), some (.ref s), x] ∧ Same H1 H' ∧ H' s = some (.lst (row n f)) ∧ Seat n f (gs.take j))
    ⟨_, _, rfl, s2, hs2, seat_none (by omega)⟩ (fun j σ H' _ ⟨_, _, _, sm, _⟩ => sm.seq hS) ?_ ?_
  · rintro j x σ H3 hj ⟨f, x5, rfl, sm, hs, S⟩
    have hlt := (List.getElem?_eq_some_iff.mp hj).1
    rw [List.length_map] at hlt
    rw [List.getElem?_map, List.getElem?_eq_getElem hlt] at hj
    cases hj
    have hnew := take_new nd hlt
    have hGj := hg _ (List.getElem_mem hlt)
    unfold t_seated_b1
    refine drop_any (fun v H' => ∃ f', Ring.Path n (hm n) f' ∧ (∀ x, Ring.Sits n f' x ↔ Ring.Sits n f x ∨ x = gs[j]) ∧ Off s H3 H' ∧ H' s = some (.lst (row n f'))) (fun R h => ?_) ?_
    · walk_at "run"; unfold sp_take_seat
      exact ⟨s, n, f, gs[j], rfl, hs, n2, n3, S.P, S.e (by omega), fun z => hnew ((S.st _).mp z), hGj, fun H' f' p of e P' st' _ _ => h _ _ ⟨f', P', st', of, e⟩⟩
    rintro _ H4 ⟨f', P', st', of, e⟩
    refine ⟨f', _, rfl, fun b o hb => of b o (fun z => by rw [z, f1] at hb; cases hb) (sm _ _ hb), e, ?_⟩
    rw [take_next hlt]
    exact S.add hnew hGj (by rw [List.length_take]; omega) P' st'
  rintro σ H3 ⟨f, x5, rfl, sm, hs, S⟩
  rw [List.length_map, List.take_length] at S
  walk_at "run"
  exact q _ s f sm hs f1 S
theorem len_law_cell_at (h : sp_law_cell_at K C vs H Q E) : vs.length = (["_law_script", "_law_k"] : List Str).length := by
  unfold sp_law_cell_at at h
  repeat (obtain ⟨_, h⟩ := h)
  subst_vars; rfl
theorem pure_law_cell_at (XF : Facts K C) (h : sp_law_cell_at K C vs H Q E) : t_law_cell_at K C E { nx := fun _ H' => Q .non H', rt := Q } (start ["_law_script", "_law_k"] vs) H := by
  obtain ⟨a, ns, k, rfl, hS, h0, q⟩ := h
  show tSeq _ _ _ [some (.ref a), some (.int k)] H
  walk_at "run"
  refine ⟨_, .inl hS, ?_⟩
  rw [List.length_map]
  unfold cellI at q
  split
  · rename_i hk
    rw [if_pos hk] at q
    refine ⟨_, hS, .int (ns.getD k.toNat 0), at_of (j := k.toNat) (by omega) ?_, q⟩
    rw [List.getElem?_map, List.getElem?_eq_getElem (by omega), List.getD_eq_getElem?_getD, List.getElem?_eq_getElem (by omega)]
    rfl
  · rename_i hk
    rw [if_neg hk] at q
    exact q
theorem len_law_whole (h : sp_law_whole K C vs H Q E) : vs.length = (["_law_found"] : List Str).length := by
  unfold sp_law_whole at h
  repeat (obtain ⟨_, h⟩ := h)
  subst_vars; rfl
theorem pure_law_whole (XF : Facts K C) (h : sp_law_whole K C vs H Q E) : t_law_whole K C E { nx := fun _ H' => Q .non H', rt := Q } (start ["_law_found"] vs) H := by
  obtain ⟨x, s, rfl, ht, q⟩ := h
  show tRet _ _ [some x] H
  have key : (Ty.isA s .int && !Ty.isA s .bool) = isWh x := by
    cases x with
    | int i => cases ht; rfl
    | bl b => cases ht; rfl
    | non => cases ht; rfl
    | str z => cases ht; rfl
    | byt b => cases ht
    | flt b => cases ht
    | ty n => cases ht
    | ref a =>
      have h' : (H a).bind hoTy = some s := ht
      cases e : H a with
      | none => rw [e] at h'; cases h'
      | some o =>
        rw [e] at h'
        have h2 : hoTy o = some s := h'
        cases o with
        | lst xs => cases h2; rfl
        | tup xs => cases h2; rfl
        | dK kvs => cases h2; rfl
        | frz ob u =>
          cases u with
          | lst xs => cases h2; rfl
          | _ => cases h2
        | _ => cases h2
  simp only [tRet, tAndV, tNotV, tCB, tCons, tNil, tVar, tC, rIsA]
  refine ⟨x, rfl, x, s, rfl, ht, s.isA .int, rfl, ?_⟩
  refine iteB (fun e => ?_) fun e => ?_
  · refine ⟨x, rfl, x, s, rfl, ht, s.isA .bool, rfl, ?_⟩
    rw [e] at key
    rw [show (!Ty.isA s .bool) = isWh x from by rw [← key]; rfl]
    exact q
  · rw [e] at key
    rw [show false = isWh x from by rw [← key]; rfl]
    exact q
theorem len_law_home (h : sp_law_home K C vs H Q E) : vs.length = (["_law_guest_here", "_law_many"] : List Str).length := by
  unfold sp_law_home at h
  repeat (obtain ⟨_, h⟩ := h)
  subst_vars; rfl
theorem pure_law_home (XF : Facts K C) (h : sp_law_home K C vs H Q E) : t_law_home K C E { nx := fun _ H' => Q .non H', rt := Q } (start ["_law_guest_here", "_law_many"] vs) H := by
  obtain ⟨g, n, rfl, h0, q⟩ := h
  show tRet _ _ [some (.int g), some (.int n)] H
  walk_at "run"
  exact ⟨h0, q⟩
theorem len_law_base (h : sp_law_base K C vs H Q E) : vs.length = (["_law_cell"] : List Str).length := by
  unfold sp_law_base at h
  repeat (obtain ⟨_, h⟩ := h)
  subst_vars; rfl
theorem pure_law_base (XF : Facts K C) (h : sp_law_base K C vs H Q E) : t_law_base K C E { nx := fun _ H' => Q .non H', rt := Q } (start ["_law_cell"] vs) H := by
  obtain ⟨c, rfl, q⟩ := h
  show tSeq _ _ _ [some (.int c)] H
  unfold baseI at q
  walk_at "run"
  repeat' split
  all_goals simp_all
theorem len_law_guest (h : sp_law_guest K C vs H Q E) : vs.length = (["_law_cell", "_law_base_here"] : List Str).length := by
  unfold sp_law_guest at h
  repeat (obtain ⟨_, h⟩ := h)
  subst_vars; rfl
theorem pure_law_guest (XF : Facts K C) (h : sp_law_guest K C vs H Q E) : t_law_guest K C E { nx := fun _ H' => Q .non H', rt := Q } (start ["_law_cell", "_law_base_here", "_law_number"] vs) H := by
  obtain ⟨c, b, rfl, q⟩ := h
  show tSeq _ _ _ [some (.int c), some (.int b), none] H
  unfold gstI at q
  walk_at "run"
  repeat' split
  all_goals simp_all
theorem len_law_drawn (h : sp_law_drawn K C vs H Q E) : vs.length = (["_law_cells", "_law_base_here"] : List Str).length := by
  unfold sp_law_drawn at h
  repeat (obtain ⟨_, h⟩ := h)
  subst_vars; rfl
theorem pure_law_drawn (XF : Facts K C) (h : sp_law_drawn K C vs H Q E) : t_law_drawn K C E { nx := fun _ H' => Q .non H', rt := Q } (start ["_law_cells", "_law_base_here", "_law_seen", "_law_cell"] vs) H := by
  obtain ⟨a, cs, b, rfl, hS, hl, q⟩ := h
  show tSeq _ _ _ [some (.ref a), some (.int b), none, none] H
  refine asg_any (fun v H' => Same H H' ∧ ∃ d, v = .ref d ∧ H' d = some (.dK (dG [])) ∧ H d = none) (fun R h => ?_) ?_
  · walk_at "run"
    exact fun p hp => h _ _ ⟨same_new hp, p, rfl, upd_same, hp⟩
  rintro v H2 ⟨s2, d, rfl, e2, f2⟩
  walk_at "nxt"
  refine for_lst (a := a) (xs := cs.map V.int) (H' := H2) (fun R h => ⟨_, rfl, h⟩) (s2.seq hS)
    (fun j σ H' => ∃ (x : Option V) (gs : List Int), σ = [some (.ref a), some (.int b), some (.ref d), x] ∧ Same H H' ∧ H' d = some (.dK (dG gs)) ∧ gs.Nodup ∧ gs.length ≤ j ∧ (∀ x ∈ gs, ∃ c, x = gstI c b))
    ⟨_, [], rfl, s2, e2, List.nodup_nil, by simp, fun x hx => nomatch hx⟩ (fun j σ H' _ ⟨_, _, _, sm, _⟩ => sm.seq hS) ?_ ?_
  · rintro j x σ H3 hj ⟨y, gs, rfl, sm, hd, nd, len, gb⟩
    have hlt := (List.getElem?_eq_some_iff.mp hj).1
    rw [List.length_map] at hlt
    obtain ⟨c, _, rfl⟩ := List.mem_map.mp (List.mem_of_getElem? hj)
    unfold t_law_drawn_b1
    refine dput_step (H' := H3) (k := .inl (gstI c b)) (v := .bl true) (fun R h => h) (fun R h => ⟨_, rfl, h⟩) (fun R h => ?_) hd (by rw [dG_len]; exact sizel (by omega)) ?_
    · walk_at "run"; unfold sp_law_guest; walk_at "run"; exact h
    rw [dG_add]
    refine ⟨_, addG gs (gstI c b), rfl, fun b' o hb => ?_, upd_same, addG_nd nd, by have := addG_len (gs := gs) (g := gstI c b); omega, fun x hx => ?_⟩
    · rw [upd_ne (fun z => by rw [z, f2] at hb; cases hb)]; exact sm _ _ hb
    · rcases addG_mem hx with h | h
      · exact gb x h
      · exact ⟨c, h⟩
  · rintro σ H3 ⟨y, gs, rfl, sm, hd, nd, len, gb⟩
    walk_at "run"
    refine ⟨_, hd, fun p hp => ?_⟩
    rw [dG_keys]
    rw [List.length_map] at len
    exact q _ p gs (sm.trans (same_new hp)) upd_same nd len gb
theorem len_law_settled (h : sp_law_settled K C vs H Q E) : vs.length = (["_law_seats", "_law_many", "_law_guests"] : List Str).length := by
  unfold sp_law_settled at h
  repeat (obtain ⟨_, h⟩ := h)
  subst_vars; rfl
theorem pure_law_settled (XF : Facts K C) (h : sp_law_settled K C vs H Q E) : t_law_settled K C E { nx := fun _ H' => Q .non H', rt := Q } (start ["_law_seats", "_law_many", "_law_guests", "_law_at", "_law_way", "_law_before", "_law_guest_here"] vs) H := by
  obtain ⟨s, a, n, f, gs, rfl, hs, hA, hn, P, he, pm, q⟩ := h
  have hS : SqL K H s (row n f) := .inl (.inl hs)
  show tSeq _ _ _ [some (.ref s), some (.int n), some (.ref a), none, none, none, none] H
  have hin := in_none.mpr he
  refine if_step (b := false) (H' := H) (fun R h => ?_) (fun z => nomatch z) (fun _ => ?_)
  · walk_at "run"; refine ⟨_, tyOf_at hs rfl, ?_⟩
    walk_at "run"
    refine ⟨_, .inl hS, ?_⟩
    rw [row_len, if_neg (by simp)]
    exact ⟨_, .inl hS, rfl, row_flat, by rw [hin]; exact h⟩
  walk_at "nxt"
  refine for_rng1 (n := n) (j := n) (H' := H) (fun R h => ?_) rfl (by omega) (fun k σ H' => H' = H ∧ ∃ x y z, σ = [some (.ref s), some (.int n), some (.ref a), x, y, z, none]) ⟨rfl, _, _, _, rfl⟩ ?_ ?_
  · walk_at "run"; exact h
  · rintro k σ H' hk ⟨rfl, x, y, z, rfl⟩
    have hn0 : 0 < n := by omega
    have hh := hm_lt hn0
    unfold t_law_settled_b1
    cases hy : f k with
    | none =>
      refine if_step (b := false) (H' := H') (fun R h => ?_) (fun z => nomatch z) (fun _ => ⟨rfl, _, _, _, rfl⟩)
      walk_at "run"; exact ⟨_, hS, _, row_at hk, by rw [hy]; exact h⟩
    | some g =>
      refine if_step (b := true) (H' := H') (fun R h => ?_) (fun _ => ?_) (fun z => nomatch z)
      · walk_at "run"; exact ⟨_, hS, _, row_at hk, by rw [hy]; exact h⟩
      refine if_step (b := false) (H' := H') (fun R h => ?_) (fun z => nomatch z) (fun _ => ?_)
      · walk_at "run"; refine ⟨_, hS, _, row_at hk, ?_⟩
        rw [hy]; unfold sp_law_whole; walk_at "run"; exact h
      walk_at "nxt"
      refine asg_step (v := .int (Ring.far n (hm n g) k)) (H' := H') (fun R h => ?_) ?_
      · walk_at "run"; refine ⟨_, hS, _, row_at hk, ?_⟩
        rw [hy]; unfold sp_law_home; walk_at "run"
        refine ⟨by omega, by omega, ?_⟩
        have := far_is hk g
        unfold farI at this
        rw [this]; exact h
      walk_at "nxt"
      by_cases hw : hm n g = k
      · have e0 : ¬ ((Ring.far n (hm n g) k : Int) > 0) := by rw [hw, Ring.far_self]; omega
        refine if_step (b := false) (H' := H') (fun R h => ?_) (fun z => nomatch z) (fun _ => ?_)
        · walk_at "run"; rw [if_neg e0]; exact h
        walk_at "nxt"
        refine if_step (b := false) (H' := H') (fun R h => ?_) (fun z => nomatch z) (fun _ => ⟨rfl, _, _, _, rfl⟩)
        walk_at "run"; rw [decide_eq_false e0]; exact h
      · have fp := Ring.far_pv (hh g) hk (fun z => hw z.symm)
        have e0 : (Ring.far n (hm n g) k : Int) > 0 := by omega
        obtain ⟨yb, hyb, ab⟩ := Ring.path_before hh P hk hy hw
        refine if_step (b := false) (H' := H') (fun R h => ?_) (fun z => nomatch z) (fun _ => ?_)
        · walk_at "run"; rw [if_pos e0]; exact ⟨_, hS, _, at_before hk, by rw [hyb]; exact h⟩
        walk_at "nxt"
        refine if_step (b := true) (H' := H') (fun R h => ?_) (fun _ => ?_) (fun z => nomatch z)
        · walk_at "run"; rw [decide_eq_true e0]; exact h
        refine asg_step (v := .int ((Ring.far n (hm n yb) (Ring.pv n k) : Int) + 1)) (H' := H') (fun R h => ?_) ?_
        · walk_at "run"; refine ⟨_, hS, _, at_before hk, ?_⟩
          rw [hyb]; unfold sp_law_home; walk_at "run"
          refine ⟨by omega, by omega, ?_⟩
          rw [far_before_is hk]; exact h
        walk_at "nxt"
        refine if_step (b := false) (H' := H') (fun R h => ?_) (fun z => nomatch z) (fun _ => ⟨rfl, _, _, _, rfl⟩)
        walk_at "run"
        unfold Ring.Ah at ab
        rw [if_neg (by omega)]
        by_cases e1 : (Ring.far n (hm n yb) (Ring.pv n k) : Int) + 1 = (Ring.far n (hm n g) k : Int)
        · rw [if_pos e1]
          refine ⟨_, hS, _, at_before hk, _, hS, _, row_at hk, ?_⟩
          rw [hyb, hy]; walk_at "run"
          rw [decide_eq_false (by omega)]; exact h
        · rw [if_neg e1]; exact h
  · rintro σ H' ⟨rfl, x, y, z, rfl⟩
    refine nx_at ?_
    refine ret_any (fun v H2 => Same H' H2 ∧ v = .bl true) (fun R h => ?_) ?_
    rotate_left
    · rintro v H2 ⟨hv, rfl⟩; exact q _ hv
    unfold tOp tCB tCons
    refine lc_lst (a := s) (xs := row n f) (H' := H') (fun R h => ⟨_, rfl, h⟩) hS (by rw [row_len]; omega) (fun x => rfl) (fun i acc => acc = (Ring.gl i f).map V.int) rfl ?_ ?_
    · rintro i x acc H2 hi sm rfl
      obtain ⟨hi, rfl⟩ := row_some hi
      refine ⟨!decide (ov (f i) = .non), fun R h => ?_, fun e => ⟨ov (f i), fun R h => ⟨_, rfl, h⟩, ?_⟩, fun e => ?_⟩
      · exact ⟨_, rfl, ⟨_, rfl, h⟩⟩
      · rw [gl_next]
        cases hy : f i with
        | none => rw [hy] at e; cases e
        | some g => rw [List.map_append]; rfl
      · rw [gl_next]
        cases hy : f i with
        | none => simp
        | some g => rw [hy] at e; simp [ov] at e
    · rintro D H3 acc hD sm ha rfl hl
      rw [row_len] at ha
      walk_at "run"
      unfold rSortedI
      refine ⟨D, _, rfl, .inl (.inl ha), fun l1 p1 pm1 so1 hp1 => ?_⟩
      refine ⟨a, gs, rfl, (same_new hp1).seq (sm.seq hA), fun l2 p2 pm2 so2 hp2 => ?_⟩
      have e := sorted_one pm1 pm2 so1 so2 pm
      subst e
      exact eqD_lst ((same_new hp2).seq (.inl (.inl upd_same))) (.inl (.inl upd_same)) ints_flD (h _ _ ⟨sm.trans ((same_new hp1).trans (same_new hp2)), rfl⟩)
theorem len_law_same (h : sp_law_same K C vs H Q E) : vs.length = (["_law_found", "_law_seats"] : List Str).length := by
  unfold sp_law_same at h
  repeat (obtain ⟨_, h⟩ := h)
  subst_vars; rfl
theorem pure_law_same (XF : Facts K C) (h : sp_law_same K C vs H Q E) : t_law_same K C E { nx := fun _ H' => Q .non H', rt := Q } (start ["_law_found", "_law_seats", "_law_one", "_law_other"] vs) H := by
  obtain ⟨s, a, n, f, rfl, hs, hA, hn, q⟩ := h
  have hS : SqL K H s (row n f) := .inl (.inl hs)
  show tSeq _ _ _ [some (.ref s), some (.ref a), none, none] H
  refine if_step (b := false) (H' := H) (fun R h => ?_) (fun z => nomatch z) (fun _ => ?_)
  · walk_at "run"; refine ⟨_, tyOf_at hs rfl, ?_⟩
    walk_at "run"; exact ⟨_, .inl hS, _, .inl hA, by simpa using h⟩
  walk_at "nxt"
  refine for_zip2 (a := s) (b := a) (H' := H) (fun R h => ⟨_, rfl, _, rfl, h⟩) hS hA rfl (fun k σ H' => Same H H' ∧ ∃ x y, σ = [some (.ref s), some (.ref a), x, y]) ⟨Same.refl _, _, _, rfl⟩ (fun k σ H' h => ⟨h.1.seq hS, h.1.seq hA⟩) ?_ ?_
  · rintro k x y σ H1 hx hy ⟨s1, x2, x3, rfl⟩ H2 s2
    rw [hx] at hy
    cases hy
    obtain ⟨hk, rfl⟩ := row_some hx
    unfold t_law_same_b1
    refine if_step (b := false) (H' := H2) (fun R h => ?_) (fun z => nomatch z) (fun _ => ?_)
    · cases f k with
      | none => walk_at "run"; exact h
      | some g => walk_at "run"; unfold sp_law_whole; walk_at "run"; exact h
    walk_at "nxt"
    refine if_step (b := false) (H' := H2) (fun R h => ?_) (fun z => nomatch z) (fun _ => ⟨s1.trans s2, _, _, rfl⟩)
    cases f k with
      | none => walk_at "run"; exact h
      | some g => walk_at "run"; exact h
  · rintro σ H1 ⟨s1, x2, x3, rfl⟩
    walk_at "run"; exact q _ s1
theorem len_law_turned (h : sp_law_turned K C vs H Q E) : vs.length = (["_law_guests", "_law_cells"] : List Str).length := by
  unfold sp_law_turned at h
  repeat (obtain ⟨_, h⟩ := h)
  subst_vars; rfl
theorem pure_law_turned (XF : Facts K C) (h : sp_law_turned K C vs H Q E) : t_law_turned K C E { nx := fun _ H' => Q .non H', rt := Q } (start ["_law_guests", "_law_cells", "_law_rest", "_law_found", "_law_k", "_law_at"] vs) H := by
  obtain ⟨a, b, gs, cs, rfl, hA, hB, hl, hm, q⟩ := h
  show tSeq _ _ _ [some (.ref a), some (.ref b), none, none, none, none] H
  refine asg_any (fun v H' => Same H H' ∧ ∃ d, v = .ref d ∧ H' d = some (.lst (gs.map V.int)) ∧ H d = none) (fun R h => ?_) ?_
  · walk_at "run"; exact ⟨_, .inl hA, fun p hp => h _ _ ⟨same_new hp, p, rfl, upd_same, hp⟩⟩
  rintro _ H1 ⟨s1, d, rfl, hd, fd⟩
  walk_at "nxt"
  refine asg_any (fun v H' => Same H1 H' ∧ ∃ o, v = .ref o ∧ H' o = some (.lst (([] : List Int).map V.int)) ∧ H1 o = none) (fun R h => ?_) ?_
  · walk_at "run"; exact ⟨sizes (by decide), fun p hp => h _ _ ⟨same_new hp, p, rfl, upd_same, hp⟩⟩
  rintro _ H2 ⟨s2, o, rfl, ho, fo⟩
  have hdo : d ≠ o := fun z => by rw [z, fo] at hd; cases hd
  have fo0 := s1.free fo
  walk_at "nxt"
  refine for_rng1 (n := gs.length) (j := gs.length) (H' := H2) (fun R h => ?_) rfl (by omega) (fun k σ H' => Same H H' ∧ (∃ x y, σ = [some (.ref a), some (.ref b), some (.ref d), some (.ref o), x, y]) ∧ ∃ r os : List Int, H' d = some (.lst (r.map V.int)) ∧ H' o = some (.lst (os.map V.int)) ∧ r.length + k = gs.length ∧ os.length = k ∧ (os ++ r).Perm gs)
    ⟨s1.trans s2, ⟨_, _, rfl⟩, gs, [], s2 _ _ hd, ho, rfl, rfl, List.Perm.refl _⟩ ?_ ?_
  · walk_at "run"; exact ⟨_, .inl (s2.seq (s1.seq hA)), by rw [List.length_map]; exact h⟩
  · rintro k σ H3 hk ⟨sm, ⟨x, y, rfl⟩, r, os, hr, hos, e1, e2, pm⟩
    unfold t_law_turned_b1
    obtain ⟨c, hc⟩ : ∃ c, c = cs[k]'(by omega) := ⟨_, rfl⟩
    obtain ⟨w, hw⟩ : ∃ w, w = c % 1000000000000 * 48271 % 2147483629 % (r.length : Int) := ⟨_, rfl⟩
    have w0 : 0 ≤ w := by rw [hw]; exact Int.emod_nonneg _ (by omega)
    have w1 : w < r.length := by rw [hw]; exact Int.emod_lt_of_pos _ (by omega)
    refine asg_step (v := .int w) (H' := H3) (fun R h => ?_) ?_
    · walk_at "run"
      refine ⟨_, sm.seq hB, .int c, at_of (j := k) rfl (by rw [List.getElem?_map, List.getElem?_eq_getElem (show k < cs.length by omega)]; simp [hc]), ?_⟩
      refine ⟨_, rfl, _, .inl (.inl (.inl hr)), ?_⟩
      rw [List.length_map]
      refine ⟨by omega, ?_⟩
      rw [← hw]; exact h
    walk_at "nxt"
    have hlt : w.toNat < r.length := by omega
    refine drop_any (fun v H' => H' = upd (upd H3 d (.lst ((r.eraseIdx w.toNat).map V.int))) o (.lst ((os ++ [r[w.toNat]]).map V.int))) (fun R h => ?_) ?_
    · unfold tBM; walk_at "run"
      refine ⟨ty_list (.inl (.inl hos)), ty_list (.inl (.inl hr)), ?_⟩
      refine ⟨d, _, w, w.toNat, .int r[w.toNat], rfl, rfl, hr, by omega, by omega, ?_, ?_, ?_⟩
      · rw [List.length_map]
        exact (ixN_seq (by unfold ixN; rw [if_pos w0, if_pos w1])).1
      · rw [List.getElem?_map, List.getElem?_eq_getElem hlt]; rfl
      · refine ⟨o, _, _, rfl, rfl, by rw [upd_ne (fun z => hdo z.symm)]; exact hos, sizel (by rw [List.length_map]; omega), ?_⟩
        refine h _ _ ?_
        rw [map_erase, List.map_append]; rfl
    rintro _ _ rfl
    refine ⟨fun b' o' hb => ?_, ⟨_, _, rfl⟩, r.eraseIdx w.toNat, os ++ [r[w.toNat]], by rw [upd_ne hdo]; exact upd_same, upd_same, ?_, by rw [List.length_append, List.length_singleton]; omega, ?_⟩
    · rw [upd_ne (fun z => by rw [z, fo0] at hb; cases hb), upd_ne (fun z => by rw [z, fd] at hb; cases hb)]; exact sm _ _ hb
    · rw [List.length_eraseIdx_of_lt hlt]; omega
    · refine List.Perm.trans ?_ pm
      rw [List.append_assoc]
      exact List.Perm.append_left _ (erase_perm r _ hlt)
  · rintro σ H3 ⟨sm, ⟨x, y, rfl⟩, r, os, hr, hos, e1, e2, pm⟩
    walk_at "run"
    have : r = [] := List.length_eq_zero_iff.mp (by omega)
    rw [this, List.append_nil] at pm
    exact q _ o os sm hos pm
theorem len_law_one_by_one (h : sp_law_one_by_one K C vs H Q E) : vs.length = (["_law_order", "_law_many", "_law_cells", "_law_base_here"] : List Str).length := by
  unfold sp_law_one_by_one at h
  repeat (obtain ⟨_, h⟩ := h)
  subst_vars; rfl
theorem pure_law_one_by_one (XF : Facts K C) (h : sp_law_one_by_one K C vs H Q E) : t_law_one_by_one K C E { nx := fun _ H' => Q .non H', rt := Q } (start ["_law_order", "_law_many", "_law_cells", "_law_base_here", "_law_seats", "_law_stranger", "_law_k", "_law_mixed", "_law_other", "_law_handed"] vs) H := by
  obtain ⟨a, c, os, cs, n, b, rfl, hA, hC, hl, hm', ln, n3, nd, hg, b0, b1, q⟩ := h
  have n2 : 2 ≤ n := by omega
  have hn0 : 0 < n := by omega
  show tSeq _ _ _ [some (.ref a), some (.int n), some (.ref c), some (.int b), none, none, none, none, none, none] H
  refine asg_any (fun v H' => Same H H' ∧ ∃ s, v = .ref s ∧ H' s = some (.lst (row n fun _ => none))) (fun R h => ?_) ?_
  · walk_at "run"
    refine ⟨sizes (by decide), fun p1 h1 => ⟨_, upd_same, by omega, by omega, ?_, fun p2 hp2 => ?_⟩⟩
    · have := sizes (n := n) (by omega); simpa using this
    rw [Int.toNat_natCast, row_none]
    exact h _ _ ⟨(same_new h1).trans (same_new hp2), p2, rfl, upd_same⟩
  rintro _ H1 ⟨s1, s, rfl, hs⟩
  walk_at "nxt"
  refine asg_step (v := ov none) (H' := H1) (fun R h => h) ?_
  walk_at "nxt"
  refine for_rng1 (n := os.length) (j := os.length) (H' := H1) (fun R h => ?_) rfl (by omega) (fun k σ H' => Same H H' ∧ ∃ (s : Addr) (f : Nat → Option Int) (z : Option Int) (x6 x7 x8 x9 : Option V), σ = [some (.ref a), some (.int n), some (.ref c), some (.int b), some (.ref s), some (ov z), x6, x7, x8, x9] ∧ H' s = some (.lst (row n f)) ∧ Seat n f (os.take k ++ ol z) ∧ (∀ y, z = some y → y ∉ os ∧ isG (.int y) = true))
    ⟨s1, s, _, none, _, _, _, _, rfl, hs, seat_none (by omega), fun y z => nomatch z⟩ ?_ ?_
  · walk_at "run"; exact ⟨_, .inl (s1.seq hA), by rw [List.length_map]; exact h⟩
  · rintro k σ H2 hk ⟨sm, s, f, z, x6, x7, x8, x9, rfl, hs, S, hz⟩
    unfold t_law_one_by_one_b1
    obtain ⟨w, hw⟩ : ∃ w, w = cs[k]'(by omega) % 1000000000000 * 16807 % 2147483647 := ⟨_, rfl⟩
    refine asg_step (v := .int w) (H' := H2) (fun R h => ?_) ?_
    · walk_at "run"
      refine ⟨_, sm.seq hC, .int (cs[k]'(by omega)), at_of (j := k) rfl (by rw [List.getElem?_map, List.getElem?_eq_getElem (show k < cs.length by omega)]; rfl), ?_⟩
      refine ⟨_, rfl, ?_⟩
      rw [← hw]; exact h
    walk_at "nxt"
    obtain ⟨o, ho⟩ : ∃ o, o = gstI (w / 6) b := ⟨_, rfl⟩
    have hGo : isG (.int o) = true := by rw [ho]; exact gstI_g _ b ⟨b0, b1⟩
    refine asg_step (v := .int o) (H' := H2) (fun R h => ?_) ?_
    · walk_at "run"; unfold sp_law_guest; walk_at "run"; rw [← ho]; exact h
    walk_at "nxt"
    have hkn : (os.take k).length = k := by rw [List.length_take]; omega
    refine if_join (b := decide (z = none ∧ w % 3 = 0 ∧ o ∉ os)) (fun σ' H' => Same H2 H' ∧ ∃ (s : Addr) (f : Nat → Option Int) (z : Option Int), σ' = [some (.ref a), some (.int n), some (.ref c), some (.int b), some (.ref s), some (ov z), some (.int (k : Nat)), some (.int w), some (.int o), x9] ∧ H' s = some (.lst (row n f)) ∧ Seat n f (os.take k ++ ol z) ∧ (∀ y, z = some y → y ∉ os ∧ isG (.int y) = true)) (fun R h => ?_) (fun e H3 s3 D _ _ _ nx => ?_) (fun e H3 s3 D _ _ _ nx => nx _ _ ⟨s3, s, f, z, rfl, s3 _ _ hs, S, hz⟩) ?_
    · cases z with
      | some y => walk_at "run"; rw [decide_eq_false (by simp)] at h; exact h _ (Same.refl _)
      | none =>
        walk_at "run"
        by_cases e1 : w % 3 = 0
        · rw [if_pos e1]
          refine ⟨_, .inl (sm.seq hA), rfl, ints_flat, ?_⟩
          rw [in_ints, show (!decide (o ∈ os)) = decide ((none : Option Int) = none ∧ w % 3 = 0 ∧ o ∉ os) by simp [e1]]
          exact h _ (Same.refl _)
        · rw [if_neg e1]
          rw [decide_eq_false (by simp [e1])] at h; exact h _ (Same.refl _)
    · obtain ⟨rfl, e1, e2⟩ := of_decide_eq_true e
      refine asg_step (v := ov (some o)) (H' := H3) (fun R h => ⟨_, rfl, h⟩) ?_
      walk_at "nxt"
      rw [show ol none = [] from rfl, List.append_nil] at S
      have em := S.em hn0
      refine asg_any (fun v H' => Same H3 H' ∧ ∃ s f, v = .ref s ∧ H' s = some (.lst (row n f)) ∧ Seat n f (os.take k ++ [o])) (fun R h => ?_) ?_
      · walk_at "run"; unfold sp_seat_in
        refine ⟨s, n, f, _, .int, rfl, .inl (.inl (s3 _ _ hs)), n2, n3, S.P, S.e hn0, rfl, (fun z => by rw [hGo] at z; cases z), fun g e _ => ?_⟩
        cases e
        exact ⟨fun z => absurd (List.mem_of_mem_take ((S.st o).mp z)) e2, fun _ z => by omega, fun _ _ H' s' f' sm hs' _ P' st' => h _ _ ⟨sm, s', f', rfl, hs', S.add (fun z => e2 (List.mem_of_mem_take z)) hGo (by omega) P' st'⟩⟩
      rintro _ H4 ⟨s4, s', f', rfl, hs', S'⟩
      exact nx _ _ ⟨s3.trans s4, s', f', some o, rfl, hs', S', fun y hy => by cases hy; exact ⟨e2, hGo⟩⟩
    rintro _ H3 ⟨s3, s, f, z, rfl, hs, S, hz⟩
    walk_at "nxt"
    refine asg_any (fun v H' => Same H3 H' ∧ ∃ d, v = .ref d ∧ H' d = some (.lst (row n f)) ∧ H3 d = none) (fun R h => ?_) ?_
    · walk_at "run"; exact ⟨_, .inl (.inl (.inl hs)), fun p hp => h _ _ ⟨same_new hp, p, rfl, upd_same, hp⟩⟩
    rintro _ H4 ⟨s4, pH, rfl, hH, fH⟩
    have hsH : s ≠ pH := fun z => by rw [z, fH] at hs; cases hs
    walk_at "nxt"
    have hgk := hg os[k] (List.getElem_mem hk)
    have hzl : (ol z).length ≤ 1 := by cases z <;> simp [ol]
    have hnew : os[k] ∉ os.take k ++ ol z := fun y => by
      rcases List.mem_append.mp y with y | y
      · exact take_new nd hk y
      · cases z with
        | none => cases y
        | some z' => rw [show z' = os[k] from (List.mem_singleton.mp y).symm] at hz; exact (hz _ rfl).1 (List.getElem_mem hk)
    have em := S.em hn0
    have hll : (os.take k ++ ol z).length ≤ k + 1 := by rw [List.length_append, hkn]; omega
    refine asg_any (fun v H' => Same H4 H' ∧ ∃ s f, v = .ref s ∧ H' s = some (.lst (row n f)) ∧ H4 s = none ∧ Seat n f (os.take (k + 1) ++ ol z)) (fun R h => ?_) ?_
    · walk_at "run"
      refine ⟨_, s4.seq (s3.seq (sm.seq hA)), .int os[k], at_of (j := k) rfl (by rw [List.getElem?_map, List.getElem?_eq_getElem hk]; rfl), ?_⟩
      unfold sp_seat_in
      refine ⟨pH, n, f, _, .int, rfl, .inl (.inl hH), n2, n3, S.P, S.e hn0, rfl, (fun z => by rw [hgk] at z; cases z), fun g e _ => ?_⟩
      cases e
      refine ⟨fun z => absurd ((S.st _).mp z) hnew, fun _ z => by omega, fun _ _ H' s' f' sm hs' h0 P' st' => h _ _ ⟨sm, s', f', rfl, hs', h0, ?_⟩⟩
      refine (S.add hnew hgk (by omega) P' st').re ?_
      rw [take_next hk, List.append_assoc, List.append_assoc]
      exact List.Perm.append_left _ List.perm_append_comm
    rintro _ H5 ⟨s5, s', f', rfl, hs', fs', S'⟩
    have hs'H : s' ≠ pH := fun z => by rw [z, hH] at fs'; cases fs'
    walk_at "nxt"
    refine drop_any (fun v H' => H' = upd H5 pH (.lst [])) (fun R h => ?_) ?_
    · walk_at "run"
      exact ⟨ty_list (.inl (.inl (s5 _ _ hH))), _, _, rfl, rfl, s5 _ _ hH, h _ _ rfl⟩
    rintro _ _ rfl
    have sm6 : Same H (upd H5 pH (.lst [])) := fun b' o' hb => by
      have h3 := s3 _ _ (sm _ _ hb)
      rw [upd_ne (fun z => by rw [z, fH] at h3; cases h3)]
      exact s5 _ _ (s4 _ _ h3)
    have hs6 : upd H5 pH (.lst []) s' = some (.lst (row n f')) := by rw [upd_ne hs'H]; exact hs'
    walk_at "nxt"
    refine if_ext (b := decide (z ≠ none ∧ w % 2 = 1)) (fun R h => ?_) (fun e H7 s7 => ?_) (fun e H7 s7 => ⟨sm6.trans s7, s', f', z, _, _, _, _, rfl, s7 _ _ hs6, S', hz⟩)
    · cases z with
      | none => walk_at "run"; rw [decide_eq_false (by simp)] at h; exact h _ (Same.refl _)
      | some y =>
        walk_at "run"
        rw [show decide (w % 2 = 1) = decide ((some y : Option Int) ≠ none ∧ w % 2 = 1) by simp]; exact h _ (Same.refl _)
    obtain ⟨e1, e2⟩ := of_decide_eq_true e
    obtain ⟨y, rfl⟩ : ∃ y, z = some y := by
      cases z with
      | none => exact absurd rfl e1
      | some y => exact ⟨y, rfl⟩
    obtain ⟨hy1, hy2⟩ := hz y rfl
    refine asg_any (fun v H' => Same H7 H' ∧ ∃ s f, v = .ref s ∧ H' s = some (.lst (row n f)) ∧ Seat n f (os.take (k + 1))) (fun R h => ?_) ?_
    · walk_at "run"; unfold sp_seat_out
      refine ⟨s', n, f', _, .int, rfl, .inl (.inl (s7 _ _ hs6)), n2, n3, S'.P, S'.e hn0, rfl, (fun z => by rw [hy2] at z; cases z), fun g e _ => ?_⟩
      cases e
      refine ⟨fun z => absurd ((S'.st y).mpr (by simp [ol])) z, fun _ H' s2 f2 sm hs2 _ P2 st2 => h _ _ ⟨sm, s2, f2, rfl, hs2, S'.del P2 st2 (nd.sublist (List.take_sublist _ _)) fun x => ?_⟩⟩
      rw [List.mem_append]
      show _ ↔ (_ ∨ x ∈ [y]) ∧ x ≠ y
      rw [List.mem_singleton]
      exact ⟨fun z => ⟨.inl z, fun w => hy1 (w ▸ List.mem_of_mem_take z)⟩, fun z => z.1.resolve_right z.2⟩
    rintro _ H8 ⟨s8, s2, f2, rfl, hs2, S2⟩
    walk_at "nxt"
    refine asg_step (v := ov none) (H' := H8) (fun R h => h) ?_
    exact ⟨sm6.trans (s7.trans s8), s2, f2, none, _, _, _, _, rfl, hs2, by rw [show ol none = [] from rfl, List.append_nil]; exact S2, fun y z => nomatch z⟩
  rintro σ H2 ⟨sm, s, f, z, x6, x7, x8, x9, rfl, hs, S, hz⟩
  rw [List.take_length] at S
  walk_at "nxt"
  refine if_join (b := decide (z ≠ none)) (fun σ' H' => Same H2 H' ∧ ∃ (s : Addr) (f : Nat → Option Int), σ' = [some (.ref a), some (.int n), some (.ref c), some (.int b), some (.ref s), some (ov z), x6, x7, x8, x9] ∧ H' s = some (.lst (row n f)) ∧ Seat n f os) (fun R h => ?_) (fun e H3 s3 D _ _ _ nx => ?_) (fun e H3 s3 D _ _ _ nx => ?_) ?_
  · cases z with
    | none => walk_at "run"; exact h _ (Same.refl _)
    | some y => walk_at "run"; exact h _ (Same.refl _)
  · obtain ⟨y, rfl⟩ : ∃ y, z = some y := by
      cases z with
      | none => exact absurd rfl (of_decide_eq_true e)
      | some y => exact ⟨y, rfl⟩
    obtain ⟨hy1, hy2⟩ := hz y rfl
    refine asg_any (fun v H' => Same H3 H' ∧ ∃ s f, v = .ref s ∧ H' s = some (.lst (row n f)) ∧ Seat n f os) (fun R h => ?_) ?_
    · walk_at "run"; unfold sp_seat_out
      refine ⟨s, n, f, _, .int, rfl, .inl (.inl (s3 _ _ hs)), n2, n3, S.P, S.e hn0, rfl, (fun z => by rw [hy2] at z; cases z), fun g e _ => ?_⟩
      cases e
      refine ⟨fun z => absurd ((S.st y).mpr (by simp [ol])) z, fun _ H' s2 f2 sm hs2 _ P2 st2 => h _ _ ⟨sm, s2, f2, rfl, hs2, S.del P2 st2 nd fun x => ?_⟩⟩
      rw [List.mem_append]
      show _ ↔ (_ ∨ x ∈ [y]) ∧ x ≠ y
      rw [List.mem_singleton]
      exact ⟨fun z => ⟨.inl z, fun w => hy1 (w ▸ z)⟩, fun z => z.1.resolve_right z.2⟩
    rintro _ H8 ⟨s8, s2, f2, rfl, hs2, S2⟩
    exact nx _ _ ⟨s3.trans s8, s2, f2, rfl, hs2, S2⟩
  · have e' : z = none := by simpa using of_decide_eq_false e
    subst e'
    rw [show ol none = [] from rfl, List.append_nil] at S
    exact nx _ _ ⟨s3, s, f, rfl, s3 _ _ hs, S⟩
  rintro _ H3 ⟨s3, s, f, rfl, hs, S⟩
  walk_at "run"
  exact q _ s f (sm.trans s3) hs S
theorem len_law_odd (h : sp_law_odd K C vs H Q E) : vs.length = (["_law_cell"] : List Str).length := by
  unfold sp_law_odd at h
  repeat (obtain ⟨_, h⟩ := h)
  subst_vars; rfl
theorem pure_law_odd (XF : Facts K C) (h : sp_law_odd K C vs H Q E) : t_law_odd K C E { nx := fun _ H' => Q .non H', rt := Q } (start ["_law_cell", "_law_number", "_law_some"] vs) H := by
  obtain ⟨c, rfl, q⟩ := h
  show tSeq _ _ _ [some (.int c), none, none] H
  obtain ⟨g, hg⟩ : ∃ g, g = c / 13 % 10000000000000000000000000000000000000000 := ⟨_, rfl⟩
  obtain ⟨g0, g1⟩ : 0 ≤ g ∧ g < 10000000000000000000000000000000000000000 := by omega
  refine asg_step (v := .int g) (H' := H) (fun R h => ?_) ?_
  · walk_at "run"; rw [← hg]; exact h
  refine nx_at ?_
  refine asg_any (fun v H' => Same H H' ∧ ∃ p xs, v = .ref p ∧ H' p = some (.lst xs) ∧ xs.length = 13 ∧ ∀ x ∈ xs, isG x = false ∧ ∃ s, tyOf H' x = some s) (fun R h => ?_) ?_
  · walk_at "run"
    refine ⟨sizes (by decide), fun p1 h1 => ⟨sizes (by decide), fun p2 h2 p3 h3 => ⟨sizes (by decide), fun p4 h4 => ⟨sizes (by decide), fun p5 h5 => ?_⟩⟩⟩⟩
    have t1 : upd H p1 (.lst [V.int 7]) p1 = some (.lst [V.int 7]) := upd_same
    have s1 : Same H (upd H p1 (.lst [V.int 7])) := same_new h1
    revert s1 t1 h2 h3 h4 h5
    generalize upd H p1 (.lst [V.int 7]) = H1
    intro h2 h3 h4 h5 t1 s1
    have t2 : upd H1 p2 (.tup [V.int 7]) p2 = some (.tup [V.int 7]) := upd_same
    have s2 : Same H1 (upd H1 p2 (.tup [V.int 7])) := same_new h2
    revert s2 t2 h3 h4 h5
    generalize upd H1 p2 (.tup [V.int 7]) = H2
    intro h3 h4 h5 t2 s2
    have t3 : upd H2 p3 (.dK []) p3 = some (.dK []) := upd_same
    have s3 : Same H2 (upd H2 p3 (.dK [])) := same_new h3
    revert s3 t3 h4 h5
    generalize upd H2 p3 (.dK []) = H3
    intro h4 h5 t3 s3
    have t4 : upd H3 p4 (.lst []) p4 = some (.lst []) := upd_same
    have s4 : Same H3 (upd H3 p4 (.lst [])) := same_new h4
    revert s4 t4 h5
    generalize upd H3 p4 (.lst []) = H4
    intro h5 t4 s4
    have s5 := same_new (o := .lst [V.bl true, V.bl false, V.non, V.str (Str.ofString ""), V.str (Str.ofString "7"), V.ref p1, V.ref p2, V.ref p3, V.int (-1), V.int (1000000000000000000000000000000000000000000000000000000000000), V.int (-2 - g), V.int (1000000000000000000000000000000000000000000000000000000000000 + 1 + g), V.ref p4]) h5
    refine h _ _ ⟨s1.trans (s2.trans (s3.trans (s4.trans s5))), p5, _, rfl, upd_same, rfl, ?_⟩
    intro x hx
    simp only [List.mem_cons, List.not_mem_nil, or_false] at hx
    rcases hx with rfl | rfl | rfl | rfl | rfl | rfl | rfl | rfl | rfl | rfl | rfl | rfl | rfl
    · exact ⟨rfl, _, rfl⟩
    · exact ⟨rfl, _, rfl⟩
    · exact ⟨rfl, _, rfl⟩
    · exact ⟨rfl, _, rfl⟩
    · exact ⟨rfl, _, rfl⟩
    · exact ⟨rfl, _, tyOf_at (s5 _ _ (s4 _ _ (s3 _ _ (s2 _ _ t1)))) rfl⟩
    · exact ⟨rfl, _, tyOf_at (s5 _ _ (s4 _ _ (s3 _ _ t2))) rfl⟩
    · exact ⟨rfl, _, tyOf_at (s5 _ _ (s4 _ _ t3)) rfl⟩
    · exact ⟨isG_neg (by omega), _, rfl⟩
    · exact ⟨isG_big (by omega), _, rfl⟩
    · exact ⟨isG_neg (by omega), _, rfl⟩
    · exact ⟨isG_big (by omega), _, rfl⟩
    · exact ⟨rfl, _, tyOf_at (s5 _ _ t4) rfl⟩
  rintro v H1 ⟨s1, p, xs, rfl, hp, hlen, hxs⟩
  refine nx_at ?_
  walk_at "run"
  have hl : (c % 13).toNat < xs.length := by omega
  obtain ⟨k1, s, k2⟩ := hxs _ (List.getElem_mem hl)
  exact ⟨_, .inl (.inl hp), _, at_of (j := (c % 13).toNat) (by omega) (List.getElem?_eq_getElem hl), q _ _ s s1 k2 k1⟩
theorem len_law_refused (h : sp_law_refused K C vs H Q E) : vs.length = (["_law_guests", "_law_many"] : List Str).length := by
  unfold sp_law_refused at h
  repeat (obtain ⟨_, h⟩ := h)
  subst_vars; rfl
theorem pure_law_refused (XF : Facts K C) (h : sp_law_refused K C vs H Q E) : t_law_refused K C E { nx := fun _ H' => Q .non H', rt := Q } (start ["_law_guests", "_law_many", "e", "_law_own", "_law_others"] vs) H := by
  obtain ⟨a, xs, n, k, rfl, hS, hl, n2, n3, hty, hw, q⟩ := h
  show tSeq _ _ _ [some (.ref a), some (.int n), none, none, none] H
  have rest : ∀ (a' : Addr) (H2 : Hp) (D : Ends) (y z : Option V), k = .noGuest ∨ k = .twice ∨ k = .full → (∀ H3 d, Same H2 H3 → H3 d = some (.lst (rfK k)) → D.rt (.ref d) H3) →
      t_law_refused_b1_exc K C E a' (.ref (C.of k)) none D [some (.ref a), some (.int n), some (.ref a'), y, z] H2 := fun a' H2 D y z hk kk => by
    unfold t_law_refused_b1_exc
    refine asg_any (fun v H' => Same H2 H' ∧ ∃ d, v = .ref d ∧ H' d = some (.lst [.bl (decide (k = .noGuest)), .bl (decide (k = .twice)), .bl (decide (k = .full))])) (fun R h => ?_) ?_
    · walk_at "run"
      unfold rIsX
      refine ⟨k, rfl, rfl, .inl ⟨.noGuest, rfl, ?_⟩⟩
      refine ⟨k, rfl, rfl, .inl ⟨.twice, rfl, ?_⟩⟩
      refine ⟨k, rfl, rfl, .inl ⟨.full, rfl, ?_⟩⟩
      exact ⟨sizes (by decide), fun p hp => h _ _ ⟨same_new hp, p, rfl, upd_same⟩⟩
    rintro v H3 ⟨s3, d, rfl, hd⟩
    walk_at "nxt"
    refine asg_step (v := .bl false) (H' := H3) (fun R h => ?_) ?_
    · walk_at "run"
      unfold rIsX
      refine ⟨k, rfl, rfl, .inl ⟨.away, rfl, ?_⟩⟩
      have e1 : decide (k = .away) = false := by rcases hk with rfl | rfl | rfl <;> rfl
      have e3 : decide (k = .noSize) = false := by rcases hk with rfl | rfl | rfl <;> rfl
      rw [e1]
      refine ⟨false, rfl, ?_⟩
      rw [if_neg (by decide)]
      refine ⟨k, rfl, rfl, .inl ⟨.noSize, rfl, ?_⟩⟩
      rw [e3]; exact h
    walk_at "nxt"
    refine ret_any (fun v H' => Same H3 H' ∧ ∃ d, v = .ref d ∧ H' d = some (.lst (rfK k))) (fun R h => ?_) ?_
    · walk_at "run"
      unfold rIsX
      refine ⟨k, rfl, rfl, .inr ⟨rfl, ?_⟩⟩
      refine ⟨true, rfl, ?_⟩
      rw [if_pos rfl]
      refine ⟨sizes (by decide), fun p hp => ?_⟩
      refine ⟨_, same_new hp _ _ hd, _, upd_same, sizes (n := 4) (by decide), fun p2 hp2 => ?_⟩
      refine h _ _ ⟨(same_new hp).trans (same_new hp2), p2, rfl, ?_⟩
      rw [upd_same]; rfl
    rintro v H4 ⟨s4, d', rfl, hd'⟩
    exact kk _ _ (s3.trans s4) hd'
  have exc : (k = .noGuest ∨ k = .twice ∨ k = .full) → wAs K (.ref C.cRingError) 2 (t_law_refused_b1_exc K C E) W0 { nx := tRet (tLst tNil) { nx := fun _ H' => Q .non H', rt := Q }, rt := Q } (.ref (C.of k)) none [some (.ref a), some (.int n), none, none, none] H := fun hk =>
    ⟨true, XF.exm k, fun _ a' ha' => rest a' _ _ _ _ hk fun H3 d s3 hd => q H3 d s3 hd, (fun z => nomatch z)⟩
  unfold tTryAs t_law_refused_b1_try
  unfold tSeq tDrop tCallS
  walk_at "run"; unfold sp_seated
  rcases hw with ⟨rfl, x, hx, hG⟩ | ⟨gs, rfl, hg, hk⟩
  · refine ⟨a, xs, n, rfl, hS, hl, n2, n3, hty, fun _ => exc (.inl rfl), fun gs e hg => ?_⟩
    subst e
    obtain ⟨g, hgm, rfl⟩ := List.mem_map.mp hx
    rw [hg g hgm] at hG; cases hG
  · refine ⟨a, _, n, rfl, hS, hl, n2, n3, hty, fun ⟨x, hx, hG⟩ => ?_, fun gs' e hg' => ?_⟩
    · obtain ⟨g, hgm, rfl⟩ := List.mem_map.mp hx
      rw [hg g hgm] at hG; cases hG
    · have := ints_inj e
      subst this
      rcases hk with ⟨rfl, nd⟩ | ⟨rfl, nd, le⟩
      · exact ⟨fun _ => exc (.inr (.inl rfl)), fun z => absurd z nd, fun z => absurd z nd⟩
      · exact ⟨fun z => absurd nd z, fun _ _ => exc (.inr (.inr rfl)), fun _ z => by omega⟩
theorem len_law_spoiled (h : sp_law_spoiled K C vs H Q E) : vs.length = (["_law_script", "_law_guests"] : List Str).length := by
  unfold sp_law_spoiled at h
  repeat (obtain ⟨_, h⟩ := h)
  subst_vars; rfl
theorem pure_law_spoiled (XF : Facts K C) (h : sp_law_spoiled K C vs H Q E) : t_law_spoiled K C E { nx := fun _ H' => Q .non H', rt := Q } (start ["_law_script", "_law_guests", "_law_way", "_law_spoiled_here", "_law_twice", "_law_many", "_law_full", "_law_due"] vs) H := by
  obtain ⟨a, b, ns, gs, rfl, hA, hB, hl, nd, hg, q⟩ := h
  show tSeq _ _ _ [some (.ref a), some (.ref b), none, none, none, none, none, none] H
  obtain ⟨w, hw⟩ : ∃ w, w = cellI ns 1 % 8 := ⟨_, rfl⟩
  have hw0 : 0 ≤ w ∧ w < 8 := by omega
  refine asg_step (v := .int w) (H' := H) (fun R h => ?_) ?_
  · walk_at "run"; unfold sp_law_cell_at; walk_at "run"; exact ⟨ns, hA, by rw [← hw]; exact h⟩
  walk_at "nxt"
  refine asg_any (fun v H' => Same H H' ∧ ∃ d, v = .ref d ∧ H' d = some (.lst (gs.map V.int)) ∧ H d = none) (fun R h => ?_) ?_
  · walk_at "run"; exact ⟨_, .inl hB, fun p hp => h _ _ ⟨same_new hp, p, rfl, upd_same, hp⟩⟩
  rintro _ H1 ⟨s1, d, rfl, hd, fd⟩
  walk_at "nxt"
  obtain ⟨tw, htw⟩ : ∃ tw : Bool, tw = decide (w / 2 % 2 = 1 ∧ 0 < gs.length) := ⟨_, rfl⟩
  refine asg_step (v := .bl tw) (H' := H1) (fun R h => ?_) ?_
  · walk_at "run"
    by_cases e : w / 2 % 2 = 1
    · rw [if_pos e]
      refine ⟨_, .inl (s1.seq hB), ?_⟩
      rw [List.length_map, show decide ((gs.length : Int) > 0) = tw by rw [htw]; exact decide_eq_decide.mpr ⟨fun z => ⟨e, by omega⟩, fun z => by omega⟩]
      exact h
    · rw [if_neg e]
      rw [htw, decide_eq_false (fun z => e z.1)] at h; exact h
  walk_at "nxt"
  /- who stands in the list behind the first insertion -/
  refine if_joinE (b := tw) (H' := H1) (fun σ' H' => σ' = [some (.ref a), some (.ref b), some (.int w), some (.ref d), some (.bl tw), none, none, none] ∧ Same H H' ∧ ∃ hs : List Int, H' d = some (.lst (hs.map V.int)) ∧ hs.length ≤ 64 ∧ (∀ g ∈ hs, isG (.int g) = true) ∧ (tw = true → ¬ hs.Nodup) ∧ (tw = false → hs.Nodup)) (fun R h => ?_) (fun e D _ _ _ nx => ?_) (fun e D _ _ _ nx => nx _ _ ⟨rfl, s1, gs, hd, by omega, hg, (fun z => by rw [e] at z; cases z), fun _ => nd⟩) ?_
  · walk_at "run"; exact h
  · have hpos : 0 < gs.length := (of_decide_eq_true (htw.symm.trans e)).2
    obtain ⟨i, hi⟩ : ∃ i, i = cellI ns 2 % ((gs.length : Int) + 1) := ⟨_, rfl⟩
    obtain ⟨j, hj⟩ : ∃ j, j = cellI ns 3 % (gs.length : Int) := ⟨_, rfl⟩
    have i0 : 0 ≤ i := by rw [hi]; exact Int.emod_nonneg _ (by omega)
    have i1 : i < gs.length + 1 := by rw [hi]; exact Int.emod_lt_of_pos _ (by omega)
    have j0 : 0 ≤ j := by rw [hj]; exact Int.emod_nonneg _ (by omega)
    have j1 : j < gs.length := by rw [hj]; exact Int.emod_lt_of_pos _ (by omega)
    have hlt : j.toNat < gs.length := by omega
    refine drop_any (fun v H' => H' = upd H1 d (.lst ((gs.take i.toNat ++ [gs[j.toNat]] ++ gs.drop i.toNat).map V.int))) (fun R h => ?_) ?_
    · unfold tBM; walk_at "run"
      refine ⟨ty_list (.inl (.inl hd)), ?_⟩
      unfold sp_law_cell_at; walk_at "run"
      refine ⟨ns, s1.seq hA, _, .inl (s1.seq hB), ?_⟩
      rw [List.length_map]
      refine ⟨by omega, ns, s1.seq hA, ?_⟩
      refine ⟨_, .inl (s1.seq hB), ?_⟩
      rw [List.length_map]
      refine ⟨by omega, _, s1.seq hB, .int gs[j.toNat], at_of (j := j.toNat) (by rw [← hj]; omega) (by rw [List.getElem?_map, List.getElem?_eq_getElem hlt]; rfl), ?_⟩
      rw [← hi]
      refine ⟨d, _, i, _, rfl, rfl, hd, sizel (by rw [List.length_map]; omega), i0, by omega, ?_⟩
      refine h _ _ ?_
      rw [List.map_append, List.map_append, List.map_take, List.map_drop]; rfl
    rintro _ _ rfl
    refine nx _ _ ⟨rfl, fun b' o' hb => ?_, _, upd_same, ?_, fun g hgm => ?_, fun _ => ins_not (List.getElem_mem hlt) _, (fun z => by rw [e] at z; cases z)⟩
    · rw [upd_ne (fun z => by rw [z, fd] at hb; cases hb)]; exact s1 _ _ hb
    · rw [List.length_append, List.length_append, List.length_take, List.length_drop, List.length_singleton]; omega
    · rcases List.mem_append.mp hgm with z | z
      · rcases List.mem_append.mp z with z | z
        · exact hg _ (List.mem_of_mem_take z)
        · rw [List.mem_singleton.mp z]; exact hg _ (List.getElem_mem hlt)
      · exact hg _ (List.mem_of_mem_drop z)
  rintro _ H2 ⟨rfl, s2, hs, hH2, hsl, hsg, hs1, hs2⟩
  walk_at "nxt"
  /- what stands there behind the second one -/
  refine if_joinE (b := decide (w % 2 = 1)) (H' := H2) (fun σ' H' => σ' = [some (.ref a), some (.ref b), some (.int w), some (.ref d), some (.bl tw), none, none, none] ∧ Same H H' ∧ ∃ xs : List V, H' d = some (.lst xs) ∧ xs.length ≤ 65 ∧ xs.all okV = true ∧ (∀ x ∈ xs, ∃ s, tyOf H' x = some s) ∧ ((w % 2 = 1 ∧ ∃ x ∈ xs, isG x = false) ∨ (w % 2 = 0 ∧ xs = hs.map V.int))) (fun R h => ?_) (fun e D _ _ _ nx => ?_) (fun e D _ _ _ nx => nx _ _ ⟨rfl, s2, _, hH2, by rw [List.length_map]; omega, by rw [List.all_map, List.all_eq_true]; intro x _; rfl, fun x hx => by obtain ⟨g, _, rfl⟩ := List.mem_map.mp hx; exact ⟨_, rfl⟩, .inr ⟨by have := of_decide_eq_false e; omega, rfl⟩⟩) ?_
  · walk_at "run"; exact h
  · have e' := of_decide_eq_true e
    obtain ⟨i, hi⟩ : ∃ i, i = cellI ns 3 / 89 % ((hs.length : Int) + 1) := ⟨_, rfl⟩
    have i0 : 0 ≤ i := by rw [hi]; exact Int.emod_nonneg _ (by omega)
    have i1 : i < hs.length + 1 := by rw [hi]; exact Int.emod_lt_of_pos _ (by omega)
    refine drop_any (fun v H' => ∃ H3 x t, Same H2 H3 ∧ isG x = false ∧ tyOf H3 x = some t ∧ H' = upd H3 d (.lst ((hs.map V.int).take i.toNat ++ [x] ++ (hs.map V.int).drop i.toNat))) (fun R h => ?_) ?_
    · unfold tBM; walk_at "run"
      refine ⟨ty_list (.inl (.inl hH2)), ?_⟩
      unfold sp_law_cell_at; walk_at "run"
      refine ⟨ns, s2.seq hA, _, .inl (.inl (.inl hH2)), ?_⟩
      rw [List.length_map]
      refine ⟨by omega, ns, s2.seq hA, ?_⟩
      unfold sp_law_odd
      refine ⟨_, rfl, fun H3 x t s3 ht hG => ?_⟩
      rw [← hi]
      exact ⟨d, _, i, _, rfl, rfl, s3 _ _ hH2, sizel (by rw [List.length_map]; omega), i0, by omega, h _ _ ⟨H3, x, t, s3, hG, ht, rfl⟩⟩
    rintro _ _ ⟨H3, x, t, s3, hG, ht, rfl⟩
    have tk : ∀ y s, tyOf H3 y = some s → tyOf (upd H3 d (.lst ((hs.map V.int).take i.toNat ++ [x] ++ (hs.map V.int).drop i.toNat))) y = some s := fun y s hy => by
      cases y with
      | ref p =>
        have h' : (H3 p).bind hoTy = some s := hy
        show (upd H3 d _ p).bind hoTy = some s
        by_cases e : p = d
        · subst e; rw [s3 _ _ hH2] at h'; rw [upd_same]; exact h'
        · rw [upd_ne e]; exact h'
      | _ => exact hy
    refine nx _ _ ⟨rfl, fun b' o' hb => ?_, _, upd_same, ?_, ?_, fun y hy => ?_, .inl ⟨e', x, by simp, hG⟩⟩
    · rw [upd_ne (fun z => by rw [z, fd] at hb; cases hb)]; exact s3 _ _ (s2 _ _ hb)
    · rw [List.length_append, List.length_append, List.length_take, List.length_drop, List.length_singleton, List.length_map]; omega
    · have hx : okV x = true := by
        cases x with
        | flt _ => cases ht
        | ty _ => cases ht
        | _ => rfl
      rw [List.all_append, List.all_append, List.all_cons, hx]
      simp only [List.all_nil, Bool.and_true, Bool.and_eq_true, List.all_eq_true]
      refine ⟨fun y hy => ?_, fun y hy => ?_⟩
      · obtain ⟨g, _, rfl⟩ := List.mem_map.mp (List.mem_of_mem_take hy); rfl
      · obtain ⟨g, _, rfl⟩ := List.mem_map.mp (List.mem_of_mem_drop hy); rfl
    · rcases List.mem_append.mp hy with z | z
      · rcases List.mem_append.mp z with z | z
        · obtain ⟨g, _, rfl⟩ := List.mem_map.mp (List.mem_of_mem_take z); exact ⟨_, rfl⟩
        · rw [List.mem_singleton.mp z]; exact ⟨t, tk _ _ ht⟩
      · obtain ⟨g, _, rfl⟩ := List.mem_map.mp (List.mem_of_mem_drop z); exact ⟨_, rfl⟩
  rintro _ H3 ⟨rfl, s3, xs, hX, hxl, hxo, hxt, hxw⟩
  have hXs : SqL K H3 d xs := .inl (.inl hX)
  walk_at "nxt"
  obtain ⟨r, hr⟩ : ∃ r, r = cellI ns 4 / 1009 % 5 := ⟨_, rfl⟩
  have hr0 : 0 ≤ r ∧ r < 5 := by omega
  obtain ⟨m, hm0, hm1, hm2, hm3⟩ := max_is (i := 2) (j := (xs.length : Int) + 1 + r)
  refine asg_step (v := .int m) (H' := H3) (fun R h => ?_) ?_
  · walk_at "run"; refine ⟨_, .inl hXs, ?_⟩
    unfold sp_law_cell_at; walk_at "run"
    refine ⟨ns, s3.seq hA, ?_⟩
    rw [← hr, ← hm0]; exact h
  walk_at "nxt"
  obtain ⟨fu, hfu⟩ : ∃ fu : Bool, fu = decide (w / 4 = 1 ∧ 1 < xs.length) := ⟨_, rfl⟩
  refine asg_step (v := .bl fu) (H' := H3) (fun R h => ?_) ?_
  · walk_at "run"
    by_cases e : w / 4 = 1
    · rw [if_pos e]
      refine ⟨_, .inl hXs, ?_⟩
      rw [show decide ((xs.length : Int) > 1) = fu by rw [hfu]; exact decide_eq_decide.mpr ⟨fun z => ⟨e, by omega⟩, fun z => by omega⟩]
      exact h
    · rw [if_neg e]
      rw [hfu, decide_eq_false (fun z => e z.1)] at h; exact h
  walk_at "nxt"
  refine if_joinE (b := fu) (H' := H3) (fun σ' H' => H3 = H' ∧ ∃ n : Nat, σ' = [some (.ref a), some (.ref b), some (.int w), some (.ref d), some (.bl tw), some (.int n), some (.bl fu), none] ∧ 2 ≤ n ∧ n ≤ 1024 ∧ (fu = true → n ≤ xs.length)) (fun R h => ?_) (fun e D _ _ _ nx => ?_) (fun e D _ _ _ nx => nx _ _ ⟨rfl, m.toNat, by rw [Int.toNat_of_nonneg (by omega)], by omega, by omega, fun z => by rw [e] at z; cases z⟩) ?_
  · walk_at "run"; exact h
  · have h1 : 1 < xs.length := (of_decide_eq_true (hfu.symm.trans e)).2
    obtain ⟨m', k0, k1, k2, k3⟩ := max_is (i := 2) (j := (xs.length : Int) - r)
    refine asg_step (v := .int m') (H' := H3) (fun R h => ?_) (nx _ _ ⟨rfl, m'.toNat, by rw [Int.toNat_of_nonneg (by omega)]; rfl, by omega, by omega, fun _ => by omega⟩)
    walk_at "run"; refine ⟨_, .inl hXs, ?_⟩
    unfold sp_law_cell_at; walk_at "run"
    refine ⟨ns, s3.seq hA, ?_⟩
    rw [← hr, ← k0]; exact h
  rintro _ _ ⟨rfl, n, rfl, n2, n3, hn⟩
  walk_at "nxt"
  obtain ⟨d1, hd1⟩ : ∃ d1 : Bool, d1 = decide (w % 2 = 1) := ⟨_, rfl⟩
  obtain ⟨d2, hd2⟩ : ∃ d2 : Bool, d2 = (decide (w % 2 = 0) && tw) := ⟨_, rfl⟩
  obtain ⟨d3, hd3⟩ : ∃ d3 : Bool, d3 = (decide (w % 2 = 0) && (!tw && fu)) := ⟨_, rfl⟩
  refine asg_any (fun v H' => Same H3 H' ∧ ∃ p, v = .ref p ∧ H' p = some (.lst (dueV d1 d2 d3))) (fun R h => ?_) ?_
  · walk_at "run"
    by_cases e : w % 2 = 0
    · rw [if_pos e, if_pos e]
      split
      · rename_i e2
        refine ⟨sizes (by decide), fun p hp => h _ _ ⟨same_new hp, p, rfl, ?_⟩⟩
        rw [upd_same, hd1, hd2, hd3, e2, decide_eq_true e]; rfl
      · rename_i e2
        have e2 : tw = true := by simpa using e2
        refine ⟨sizes (by decide), fun p hp => h _ _ ⟨same_new hp, p, rfl, ?_⟩⟩
        rw [upd_same, hd1, hd2, hd3, e2, decide_eq_true e]; rfl
    · rw [if_neg e, if_neg e]
      refine ⟨sizes (by decide), fun p hp => h _ _ ⟨same_new hp, p, rfl, ?_⟩⟩
      rw [upd_same, hd1, hd2, hd3, decide_eq_false e]; rfl
  rintro _ H4 ⟨s4, pD, rfl, hD⟩
  walk_at "run"
  refine ⟨sizes (by decide), fun t ht => ?_⟩
  have s5 := same_new (o := .lst [V.ref d, V.int n, V.ref pD]) ht
  refine q _ t d pD n xs d1 d2 d3 (s3.trans (s4.trans s5)) upd_same (s5 _ _ (s4 _ _ hX)) (s5 _ _ hD) (by omega) n2 n3 hxo (fun x hx => ?_) ?_
  · obtain ⟨s, hs⟩ := hxt x hx
    exact ⟨s, tyOf_same hs (s4.trans s5)⟩
  rcases hxw with ⟨e1, hx⟩ | ⟨e1, rfl⟩
  · refine .inr ⟨.noGuest, .inl ⟨rfl, hx⟩, ?_⟩
    rw [hd1, hd2, hd3, decide_eq_true e1, decide_eq_false (show ¬ w % 2 = 0 by omega)]; rfl
  · rw [decide_eq_false (show ¬ w % 2 = 1 by omega)] at hd1
    rw [decide_eq_true e1, Bool.true_and] at hd2 hd3
    cases htw' : tw with
    | true =>
      refine .inr ⟨.twice, .inr ⟨hs, rfl, hsg, .inl ⟨rfl, hs1 htw'⟩⟩, ?_⟩
      rw [hd1, hd2, hd3, htw']; rfl
    | false =>
      cases hfu' : fu with
      | true =>
        refine .inr ⟨.full, .inr ⟨hs, rfl, hsg, .inr ⟨rfl, hs2 htw', by have := hn hfu'; rw [List.length_map] at this; exact this⟩⟩, ?_⟩
        rw [hd1, hd2, hd3, htw', hfu']; rfl
      | false =>
        refine .inl ⟨hd1, ?_, ?_⟩
        · rw [hd2, htw']
        · rw [hd3, htw', hfu']; rfl
theorem len_law (h : sp_law K C vs H Q E) : vs.length = (["_law_script"] : List Str).length := by
  unfold sp_law sp_law0 at h
  repeat (obtain ⟨_, h⟩ := h)
  subst_vars; rfl
theorem pure_law (XF : Facts K C) (h : sp_law K C vs H Q E) : t_law K C E { nx := fun _ H' => Q .non H', rt := Q } (start ["_law_script", "_law_base_here", "_law_cells", "_law_guests", "_law_spoiled_here", "_law_many", "_law_due", "_law_kept", "_law_handed", "_law_one", "_law_held", "_law_order", "_law_wide"] vs) H := by
  obtain ⟨a, ns, rfl, hS, hl, q⟩ := h
  show tSeq _ _ _ [some (.ref a), none, none, none, none, none, none, none, none, none, none, none, none] H
  obtain ⟨b, hb⟩ : ∃ b, b = baseI (cellI ns 0) := ⟨_, rfl⟩
  have hb0 : 0 ≤ b ∧ b < 10000000000000000000000000000000000000000000000000000000000 := by rw [hb]; exact baseI_ok _
  refine asg_step (v := .int b) (H' := H) (fun R h => ?_) ?_
  · walk_at "run"; unfold sp_law_base sp_law_cell_at; walk_at "run"; exact ⟨ns, hS, by rw [← hb]; exact h⟩
  walk_at "nxt"
  refine asg_any (fun v H' => Same H H' ∧ ∃ (p : Addr) (cs : List Int), v = .ref p ∧ H' p = some (.lst (cs.map V.int)) ∧ cs.length ≤ 63) (fun R h => ?_) ?_
  · walk_at "run"
    refine ⟨_, hS, fun p hp => ?_⟩
    obtain ⟨cs, hc, hcl⟩ := cut_ints (ns := ns) (lo := some 5) (hi := some 89)
    rw [hc]
    exact h _ _ ⟨same_new hp, p, cs, rfl, upd_same, by omega⟩
  rintro _ H1 ⟨s1, pC, cs, rfl, hC, hcl⟩
  walk_at "nxt"
  refine asg_any (fun v H' => Same H1 H' ∧ ∃ (pG : Addr) (gs : List Int), v = .ref pG ∧ H' pG = some (.lst (gs.map V.int)) ∧ gs.Nodup ∧ gs.length ≤ cs.length ∧ ∀ x ∈ gs, isG (.int x) = true) (fun R h => ?_) ?_
  · walk_at "run"; unfold sp_law_drawn
    refine ⟨pC, cs, b, rfl, .inl (.inl hC), hcl, fun H' d gs sm hd nd len gb => h _ _ ⟨sm, d, gs, rfl, hd, nd, len, fun x hx => ?_⟩⟩
    obtain ⟨c, rfl⟩ := gb x hx
    exact gstI_g c b hb0
  rintro _ H2 ⟨s2, pG, gs, rfl, hG, nd, len, hg⟩
  have hG2 : SqL K H2 pG (gs.map V.int) := .inl (.inl hG)
  walk_at "nxt"
  refine asg_lst3 (fun u w z H' => Same H2 H' ∧ ∃ (pS pD : Addr) (n : Nat) (xs : List V) (d1 d2 d3 : Bool), u = .ref pS ∧ w = .int n ∧ z = .ref pD ∧ H' pS = some (.lst xs) ∧ H' pD = some (.lst (dueV d1 d2 d3)) ∧ xs.length ≤ 100 ∧ 2 ≤ n ∧ n ≤ 1024 ∧ xs.all okV = true ∧ (∀ x ∈ xs, ∃ s, tyOf H' x = some s) ∧
    ((d1 = false ∧ d2 = false ∧ d3 = false) ∨ ∃ k, Why xs n k ∧ dueV d1 d2 d3 = [.bl (decide (k = .noGuest)), .bl (decide (k = .twice)), .bl (decide (k = .full))])) (fun R h => ?_) ?_
  · walk_at "run"; unfold sp_law_spoiled
    exact ⟨a, pG, ns, gs, rfl, s2.seq (s1.seq hS), hG2, by omega, nd, hg, fun H' t pS pD n xs d1 d2 d3 sm e1 e2 e3 e4 e5 e6 e7 e8 e9 => h _ _ _ _ _ e1 ⟨sm, pS, pD, n, xs, d1, d2, d3, rfl, rfl, rfl, e2, e3, e4, e5, e6, e7, e8, e9⟩⟩
  rintro _ _ _ H3 ⟨s3, pS, pD, n0, xs, d1, d2, d3, rfl, rfl, rfl, hX, hD, xl, n2, n3, xo, xt, hw⟩
  walk_at "nxt"
  refine asg_any (fun v H' => Same H3 H' ∧ ∃ d, v = .ref d ∧ H' d = some (.lst xs)) (fun R h => ?_) ?_
  · walk_at "run"; exact ⟨_, .inl (.inl (.inl hX)), fun p hp => h _ _ ⟨same_new hp, p, rfl, upd_same⟩⟩
  rintro _ H4 ⟨s4, pK, rfl, hK⟩
  walk_at "nxt"
  refine if_ext (b := false) (fun R h => ?_) (fun z => nomatch z) (fun _ H5 s5 => ?_)
  · walk_at "run"
    refine ⟨_, .inl (.inl (.inl (s4 _ _ hD))), rfl, rfl, ?_⟩
    rcases hw with ⟨rfl, rfl, rfl⟩ | ⟨k, hk, hv⟩
    · rw [if_neg (by decide)]; exact h _ (Same.refl _)
    split
    · unfold sp_law_refused
      refine ⟨pS, xs, n0, k, rfl, .inl (.inl (s4 _ _ hX)), by omega, n2, n3, fun x hx => ?_, hk, fun H5 d s5 hd => ?_⟩
      · obtain ⟨s, hs⟩ := xt x hx
        exact ⟨s, tyOf_same hs s4⟩
      refine ⟨sizes (by decide), fun p1 hp1 => ⟨_, same_new hp1 _ _ (s5 _ _ (s4 _ _ hD)), _, upd_same, sizes (n := 4) (by decide), fun p2 hp2 => ?_⟩⟩
      have sp := (same_new (o := .lst [V.bl true]) hp1).trans (same_new (o := .lst (dueV d1 d2 d3 ++ [.bl true])) hp2)
      refine neD_lst (.inl (.inl (sp _ _ hd))) (.inl (.inl (by rw [upd_same, hv]; rfl))) (rfK_flD k) ⟨_, rfl, ?_⟩
      rw [if_neg (by decide)]
      exact ⟨pS, pK, xs, rfl, rfl, .inl (.inl (sp _ _ (s5 _ _ (s4 _ _ hX)))), .inl (.inl (sp _ _ (s5 _ _ hK))), xo, _, rfl, h _ (s5.trans sp)⟩
    · exact h _ (Same.refl _)
  have s25 : Same H2 H5 := s3.trans (s4.trans s5)
  have hG5 : SqL K H5 pG (gs.map V.int) := s25.seq hG2
  walk_at "nxt"
  obtain ⟨n, hn⟩ : ∃ n : Nat, (n : Int) = (gs.length : Int) + 2 + cellI ns 2 / 101 % 40 := ⟨((gs.length : Int) + 2 + cellI ns 2 / 101 % 40).toNat, by omega⟩
  have n2 : 2 ≤ n := by omega
  have n3 : n ≤ 1024 := by omega
  have hn0 : 0 < n := by omega
  refine asg_step (v := .int n) (H' := H5) (fun R h => ?_) ?_
  · walk_at "run"; refine ⟨_, .inl hG5, ?_⟩
    unfold sp_law_cell_at; walk_at "run"
    refine ⟨ns, s25.seq (s2.seq (s1.seq hS)), ?_⟩
    rw [List.length_map, ← hn]; exact h
  walk_at "nxt"
  refine asg_any (fun v H' => Same H5 H' ∧ ∃ d, v = .ref d ∧ H' d = some (.lst (gs.map V.int)) ∧ H5 d = none) (fun R h => ?_) ?_
  · walk_at "run"; exact ⟨_, .inl hG5, fun p hp => h _ _ ⟨same_new hp, p, rfl, upd_same, hp⟩⟩
  rintro _ H6 ⟨s6, pH, rfl, hH, fH⟩
  walk_at "nxt"
  refine asg_any (fun v H' => Same H6 H' ∧ ∃ s f, v = .ref s ∧ H' s = some (.lst (row n f)) ∧ H6 s = none ∧ Seat n f gs) (fun R h => ?_) ?_
  · walk_at "run"; unfold sp_seated
    refine ⟨pH, _, n, rfl, .inl (.inl hH), by rw [List.length_map]; omega, n2, n3, ints_ty, fun z => absurd z (ints_bad hg), fun gs' e hg' => ?_⟩
    have := ints_inj e
    subst this
    exact ⟨fun z => absurd nd z, fun _ z => by omega, fun _ _ H' s f sm hs h0 S => h _ _ ⟨sm, s, f, rfl, hs, h0, S⟩⟩
  rintro _ H7 ⟨s7, p1, f, rfl, h1, f1, S⟩
  have hH7 := s7 _ _ hH
  have h1H : p1 ≠ pH := fun z => by rw [z, hH] at f1; cases f1
  have hG7 : SqL K H7 pG (gs.map V.int) := s7.seq (s6.seq hG5)
  walk_at "nxt"
  refine if_ext (b := false) (fun R h => ?_) (fun z => nomatch z) (fun _ H8 s8 => ?_)
  · walk_at "run"; unfold sp_law_settled
    refine ⟨p1, pG, n, f, gs, rfl, h1, hG7, n3, S.P, S.e hn0, S.perm hn0, fun H8 s8 => ⟨_, rfl, ?_⟩⟩
    rw [if_neg (by decide)]
    exact neD_lst (.inl (.inl (s8 _ _ hH7))) (s8.seq hG7) ints_flD ⟨_, rfl, h _ s8⟩
  have h18 := s8 _ _ h1
  have hH8 := s8 _ _ hH7
  walk_at "nxt"
  refine asg_any (fun v H' => Same H8 H' ∧ ∃ d, v = .ref d ∧ H' d = some (.lst (row n f)) ∧ H8 d = none) (fun R h => ?_) ?_
  · walk_at "run"; exact ⟨_, .inl (.inl (.inl h18)), fun p hp => h _ _ ⟨same_new hp, p, rfl, upd_same, hp⟩⟩
  rintro _ H9 ⟨s9, pL, rfl, hL, fL⟩
  have hLH : pL ≠ pH := fun z => by rw [z, hH8] at fL; cases fL
  walk_at "nxt"
  refine drop_any (fun v H' => H' = upd H9 pH (.lst [])) (fun R h => ?_) ?_
  · walk_at "run"
    exact ⟨ty_list (.inl (.inl (s9 _ _ hH8))), _, _, rfl, rfl, s9 _ _ hH8, h _ _ rfl⟩
  rintro _ _ rfl
  have s5c : Same H5 (upd H9 pH (.lst [])) := fun b' o' hb => by
    rw [upd_ne (fun z => by rw [z, fH] at hb; cases hb)]
    exact s9 _ _ (s8 _ _ (s7 _ _ (s6 _ _ hb)))
  have h1c : upd H9 pH (.lst []) p1 = some (.lst (row n f)) := by rw [upd_ne h1H]; exact s9 _ _ h18
  have hLc : upd H9 pH (.lst []) pL = some (.lst (row n f)) := by rw [upd_ne hLH]; exact hL
  have hGc : SqL K (upd H9 pH (.lst [])) pG (gs.map V.int) := s5c.seq hG5
  have hCc : SqL K (upd H9 pH (.lst [])) pC (cs.map V.int) := s5c.seq (s25.seq (s2.seq (.inl (.inl hC))))
  have hSc : SqL K (upd H9 pH (.lst [])) a (ns.map V.int) := s5c.seq (s25.seq (s2.seq (s1.seq hS)))
  revert h1c hLc hGc hCc hSc
  generalize upd H9 pH (.lst []) = H10
  intro h1c hLc hGc hCc hSc
  walk_at "nxt"
  refine asg_any (fun v H' => Same H10 H' ∧ ∃ (d : Addr) (os : List Int), v = .ref d ∧ H' d = some (.lst (os.map V.int)) ∧ os.Perm gs) (fun R h => ?_) ?_
  · walk_at "run"; unfold sp_law_turned
    exact ⟨pG, pC, gs, cs, rfl, hGc, hCc, len, by omega, fun H' d os sm hd pm => h _ _ ⟨sm, d, os, rfl, hd, pm⟩⟩
  rintro _ H11 ⟨s11, pO, os, rfl, hO, pm⟩
  have ond := pm.nodup_iff.mpr nd
  have olen := pm.length_eq
  have og : ∀ g ∈ os, isG (.int g) = true := fun g hm => hg g (pm.mem_iff.mp hm)
  have hO11 : SqL K H11 pO (os.map V.int) := .inl (.inl hO)
  walk_at "nxt"
  refine if_ext (b := false) (fun R h => ?_) (fun z => nomatch z) (fun _ H12 s12 => ?_)
  · walk_at "run"; unfold sp_seated
    refine ⟨pO, _, n, rfl, hO11, by rw [List.length_map]; omega, n2, n3, ints_ty, fun z => absurd z (ints_bad og), fun gs' e hg' => ?_⟩
    have := ints_inj e
    subst this
    refine ⟨fun z => absurd ond z, fun _ z => by omega, fun _ _ H12 s2' f2 s12 hs2 _ S2 => ?_⟩
    have ef : row n f2 = row n f := Seat.one hn0 S2 S fun x => pm.mem_iff
    rw [ef] at hs2
    unfold sp_law_same
    refine ⟨s2', pL, n, f, rfl, hs2, .inl (.inl (s12 _ _ (s11 _ _ hLc))), n3, fun H13 s13 => ⟨_, rfl, ?_⟩⟩
    rw [if_neg (by decide)]
    unfold sp_law_one_by_one
    refine ⟨pO, pC, os, cs, n, b, rfl, s13.seq (s12.seq hO11), s13.seq (s12.seq (s11.seq hCc)), by omega, by omega, by omega, n3, ond, og, hb0.1, hb0.2, fun H14 s3' f3 s14 hs3 S3 => ?_⟩
    have ef3 : row n f3 = row n f := Seat.one hn0 S3 S fun x => pm.mem_iff
    rw [ef3] at hs3
    exact ⟨s3', pL, n, f, rfl, hs3, .inl (.inl (s14 _ _ (s13 _ _ (s12 _ _ (s11 _ _ hLc))))), n3, fun H15 s15 => ⟨_, rfl, h _ (s12.trans (s13.trans (s14.trans s15)))⟩⟩
  have s1012 : Same H10 H12 := s11.trans s12
  walk_at "nxt"
  obtain ⟨r, hr⟩ : ∃ r, r = cellI ns 3 / 1013 % (1024 - (gs.length : Int)) := ⟨_, rfl⟩
  have r0 : 0 ≤ r := by rw [hr]; exact Int.emod_nonneg _ (by omega)
  have r1 : r < 1024 - (gs.length : Int) := by rw [hr]; exact Int.emod_lt_of_pos _ (by omega)
  obtain ⟨m, hm0, hm1, hm2, hm3⟩ := max_is (i := 2) (j := (gs.length : Int) + 1 + r)
  obtain ⟨wd, hwd⟩ : ∃ wd : Nat, m = (wd : Int) := ⟨m.toNat, by omega⟩
  have w2 : 2 ≤ wd := by omega
  have w3 : wd ≤ 1024 := by omega
  refine asg_step (v := .int wd) (H' := H12) (fun R h => ?_) ?_
  · walk_at "run"; refine ⟨_, .inl (s1012.seq hGc), ?_⟩
    unfold sp_law_cell_at; walk_at "run"
    refine ⟨ns, s1012.seq hSc, _, .inl (s1012.seq hGc), ?_⟩
    rw [List.length_map]
    refine ⟨by omega, ?_⟩
    rw [← hr, ← hm0, hwd]; exact h
  walk_at "nxt"
  refine if_ext (b := false) (fun R h => ?_) (fun z => nomatch z) (fun _ H13 s13 => ?_)
  · walk_at "run"; unfold sp_seated
    refine ⟨pG, _, wd, rfl, s1012.seq hGc, by rw [List.length_map]; omega, w2, w3, ints_ty, fun z => absurd z (ints_bad hg), fun gs' e hg' => ?_⟩
    have := ints_inj e
    subst this
    refine ⟨fun z => absurd nd z, fun _ z => by omega, fun _ _ H13 s2' f2 s13 hs2 _ S2 => ?_⟩
    unfold sp_law_settled
    exact ⟨s2', pG, wd, f2, gs, rfl, hs2, s13.seq (s1012.seq hGc), w3, S2.P, S2.e (by omega), S2.perm (by omega), fun H14 s14 => ⟨_, rfl, h _ (s13.trans s14)⟩⟩
  walk_at "run"; unfold sp_law_same
  exact ⟨p1, pL, n, f, rfl, s13 _ _ (s1012 _ _ h1c), .inl (.inl (s13 _ _ (s1012 _ _ hLc))), n3, fun H14 _ => q _⟩
end
end RS
namespace RS
open PySem PySem.Spec PyProof.Rows L2
def topS (i : Nat) : Stmt := PySem.Challenge.pw_ringseat_k08_whole_any_order.main.body.getD i (.Pass ⟨0, 0, 0, 0⟩)
/-- the built-in names that the text reads are still the built-in ones -/
structure Bl (mg : Str → Option Value) : Prop where
  ValueError : mg "ValueError" = none
  bool : mg "bool" = none
  int : mg "int" = none
  isinstance : mg "isinstance" = none
  len : mg "len" = none
  list : mg "list" = none
  max : mg "max" = none
  range : mg "range" = none
  set : mg "set" = none
  sorted : mg "sorted" = none
  zip : mg "zip" = none
abbrev s_is_guest : Stmt := topS 8
theorem sc_is_guest : FnScope ["thing"] ["thing"] (defScope s_is_guest) := ⟨rfl, rfl, rfl, by decide +kernel, rfl, by decide +kernel, by decide +kernel⟩
theorem ok_is_guest {P : Program} {w : World} {K : PySem.W.Frag} {mg : Str → Option Value} {base : Heap} {C : Cs} {f : Addr} {fd : FuncData} (F : Fun K "is_guest" "is_guest" s_is_guest f fd) (B : Bl mg) (T : Top K mg C) :
    FnOk P w K mg base CX0 1 f fd ["thing"] (sp_is_guest K C) := by
  refine F.ok sc_is_guest (fun vs H Q E h => len_is_guest h) (fun cdv A outer s H vs Q E hr h => ⟨t_is_guest K C E, ?_, pure_is_guest T.f h⟩)
  have hu := hu_of hr
  exact (pss_cons (ps_if (PW.pt (pw_or (pt_not (pt_val (pe_callB call_isA (by rfl) B.isinstance (by decide +kernel) (pa_cons (pv 0) (pa_cons (pe_bltn (v := .ty "int") (by rfl) B.int (by decide +kernel) rfl) pa_nil))))) (pw_or1 (pt_val (pe_callB call_isA (by rfl) B.isinstance (by decide +kernel) (pa_cons (pv 0) (pa_cons (pe_bltn (v := .ty "bool") (by rfl) B.bool (by decide +kernel) rfl) pa_nil))))))) (pss_one (ps_ret pe_bl)) pss_nil)
      (pss_one (ps_ret (pe_and (pe_cmpR op_le pe_int (pv 0) (nomark _)) (pe_one (pe_cmpR op_lt (pv 0) (pe_pow (m := 10) (n := 60) (N := 1000000000000000000000000000000000000000000000000000000000000) rfl rfl (by decide +kernel) (by decide) (by decide)) (nomark _)))))))
theorem cal_is_guest {P : Program} {w : World} {K : PySem.W.Frag} {mg : Str → Option Value} {base : Heap} {C : Cs} (D : Def K mg "is_guest" s_is_guest) (B : Bl mg) (T : Top K mg C) :
    Cal P w K mg base CX0 1 "is_guest" ["thing"] (sp_is_guest K C) := by
  obtain ⟨f, fd, F, hm⟩ := D.ex
  exact ⟨f, fd, ok_is_guest F B T, hm, F.kp, F.binds (ps := ["thing"]) fun _ _ _ _ _ _ us hl => match us, hl with | [_], _ => rfl⟩
abbrev s_home : Stmt := topS 9
theorem sc_home : FnScope ["guest", "many"] ["guest", "many"] (defScope s_home) := ⟨rfl, rfl, rfl, by decide +kernel, rfl, by decide +kernel, by decide +kernel⟩
theorem ok_home {P : Program} {w : World} {K : PySem.W.Frag} {mg : Str → Option Value} {base : Heap} {C : Cs} {f : Addr} {fd : FuncData} (F : Fun K "home" "home" s_home f fd) (B : Bl mg) (T : Top K mg C) :
    FnOk P w K mg base CX0 1 f fd ["guest", "many"] (sp_home K C) := by
  refine F.ok sc_home (fun vs H Q E h => len_home h) (fun cdv A outer s H vs Q E hr h => ⟨t_home K C E, ?_, pure_home T.f h⟩)
  have hu := hu_of hr
  exact (pss_one (ps_ret (pe_op op_mod (pe_op op_mod (pe_op op_add (pe_op op_mulL (pv 0) pe_int) (pe_op op_fdiv (pv 0) pe_int)) pe_int) (pv 1))))
theorem cal_home {P : Program} {w : World} {K : PySem.W.Frag} {mg : Str → Option Value} {base : Heap} {C : Cs} (D : Def K mg "home" s_home) (B : Bl mg) (T : Top K mg C) :
    Cal P w K mg base CX0 1 "home" ["guest", "many"] (sp_home K C) := by
  obtain ⟨f, fd, F, hm⟩ := D.ex
  exact ⟨f, fd, ok_home F B T, hm, F.kp, F.binds (ps := ["guest", "many"]) fun _ _ _ _ _ _ us hl => match us, hl with | [_, _], _ => rfl⟩
abbrev s_carried : Stmt := topS 10
theorem sc_carried : FnScope ["guest", "at", "many"] ["guest", "at", "many"] (defScope s_carried) := ⟨rfl, rfl, rfl, by decide +kernel, rfl, by decide +kernel, by decide +kernel⟩
theorem ok_carried {P : Program} {w : World} {K : PySem.W.Frag} {mg : Str → Option Value} {base : Heap} {C : Cs} {f : Addr} {fd : FuncData} (F : Fun K "carried" "carried" s_carried f fd) (B : Bl mg) (T : Top K mg C) (c_home : Cal P w K mg base CX0 1 "home" ["guest", "many"] (sp_home K C)) :
    FnOk P w K mg base CX0 2 f fd ["guest", "at", "many"] (sp_carried K C) := by
  refine F.ok sc_carried (fun vs H Q E h => len_carried h) (fun cdv A outer s H vs Q E hr h => ⟨t_carried K C E, ?_, pure_carried T.f h⟩)
  have hu := hu_of hr
  exact (pss_one (ps_ret (pe_op op_mod (pe_op op_sub (pv 1) (pe_fn c_home (hr.mono (by decide)) pass0 (pa_cons (pv 0) (pa_cons (pv 2) pa_nil)))) (pv 2))))
theorem cal_carried {P : Program} {w : World} {K : PySem.W.Frag} {mg : Str → Option Value} {base : Heap} {C : Cs} (D : Def K mg "carried" s_carried) (B : Bl mg) (T : Top K mg C) (c_home : Cal P w K mg base CX0 1 "home" ["guest", "many"] (sp_home K C)) :
    Cal P w K mg base CX0 2 "carried" ["guest", "at", "many"] (sp_carried K C) := by
  obtain ⟨f, fd, F, hm⟩ := D.ex
  exact ⟨f, fd, ok_carried F B T c_home, hm, F.kp, F.binds (ps := ["guest", "at", "many"]) fun _ _ _ _ _ _ us hl => match us, hl with | [_, _, _], _ => rfl⟩
abbrev s_ahead : Stmt := topS 11
theorem sc_ahead : FnScope ["one", "other", "at", "many", "here", "there"] ["one", "other", "at", "many"] (defScope s_ahead) := ⟨rfl, rfl, rfl, by decide +kernel, rfl, by decide +kernel, by decide +kernel⟩
theorem ok_ahead {P : Program} {w : World} {K : PySem.W.Frag} {mg : Str → Option Value} {base : Heap} {C : Cs} {f : Addr} {fd : FuncData} (F : Fun K "ahead" "ahead" s_ahead f fd) (B : Bl mg) (T : Top K mg C) (c_carried : Cal P w K mg base CX0 2 "carried" ["guest", "at", "many"] (sp_carried K C)) :
    FnOk P w K mg base CX0 3 f fd ["one", "other", "at", "many"] (sp_ahead K C) := by
  refine F.ok sc_ahead (fun vs H Q E h => len_ahead h) (fun cdv A outer s H vs Q E hr h => ⟨t_ahead K C E, ?_, pure_ahead T.f h⟩)
  have hu := hu_of hr
  exact (pss_cons (ps_set (i := 4) sc_ahead.nd rfl (.inl rfl) (pe_fn c_carried (hr.mono (by decide)) pass0 (pa_cons (pv 0) (pa_cons (pv 2) (pa_cons (pv 3) pa_nil)))))
      (pss_cons (ps_set (i := 5) sc_ahead.nd rfl (.inl rfl) (pe_fn c_carried (hr.mono (by decide)) pass0 (pa_cons (pv 1) (pa_cons (pv 2) (pa_cons (pv 3) pa_nil)))))
      (pss_cons (ps_if (pt_cmpR op_ne (pv 4) (pv 5) (nomark _)) (pss_one (ps_ret (pe_cmpR op_gt (pv 4) (pv 5) (nomark _)))) pss_nil)
      (pss_one (ps_ret (pe_cmpR op_lt (pv 0) (pv 1) (nomark _)))))))
theorem cal_ahead {P : Program} {w : World} {K : PySem.W.Frag} {mg : Str → Option Value} {base : Heap} {C : Cs} (D : Def K mg "ahead" s_ahead) (B : Bl mg) (T : Top K mg C) (c_carried : Cal P w K mg base CX0 2 "carried" ["guest", "at", "many"] (sp_carried K C)) :
    Cal P w K mg base CX0 3 "ahead" ["one", "other", "at", "many"] (sp_ahead K C) := by
  obtain ⟨f, fd, F, hm⟩ := D.ex
  exact ⟨f, fd, ok_ahead F B T c_carried, hm, F.kp, F.binds (ps := ["one", "other", "at", "many"]) fun _ _ _ _ _ _ us hl => match us, hl with | [_, _, _, _], _ => rfl⟩
abbrev s_look_for : Stmt := topS 13
theorem sc_look_for : FnScope ["seats", "guest", "many", "at", "looked"] ["seats", "guest"] (defScope s_look_for) := ⟨rfl, rfl, rfl, by decide +kernel, rfl, by decide +kernel, by decide +kernel⟩
theorem ok_look_for {P : Program} {w : World} {K : PySem.W.Frag} {mg : Str → Option Value} {base : Heap} {C : Cs} {f : Addr} {fd : FuncData} (F : Fun K "look_for" "look_for" s_look_for f fd) (B : Bl mg) (T : Top K mg C) (c_is_guest : Cal P w K mg base CX0 1 "is_guest" ["thing"] (sp_is_guest K C)) (c_home : Cal P w K mg base CX0 1 "home" ["guest", "many"] (sp_home K C)) (c_ahead : Cal P w K mg base CX0 3 "ahead" ["one", "other", "at", "many"] (sp_ahead K C)) :
    FnOk P w K mg base (L2.CX P w) 4 f fd ["seats", "guest"] (sp_look_for K C) := by
  refine F.okX sc_look_for (fun vs H Q E h => len_look_for h) (fun cdv A outer s H vs Q E hr h => ⟨t_look_for K C E, ?_, pure_look_for T.f h⟩)
  have hu := hu_of hr
  exact (pss_cons (ps_if (pt_not (pt_val (pe_fn c_is_guest (hr.mono (by decide)) pass0 (pa_cons (pv 1) pa_nil)))) (pss_one (ps_raise rfl (takes_of rfl rfl rfl rfl) (pmk_own PySem.F.excBase_ValueError (T.f.ex .noGuest).q T.gNoGuest (T.f.ex .noGuest).k (raises_own (T.f.ex .noGuest).b (T.f.ex .noGuest).t) (by rfl)))) pss_nil)
      (PSs.nox (pss_cons (ps_set (i := 2) sc_look_for.nd rfl (.inl rfl) (pe_callB call_len_seq (by rfl) B.len (by decide +kernel) (pa_cons (pv 0) pa_nil)))
      (pss_cons (ps_set (i := 3) sc_look_for.nd rfl (.inl rfl) (pe_fn c_home (hr.mono (by decide)) pass0 (pa_cons (pv 1) (pa_cons (pv 2) pa_nil))))
      (pss_cons (ps_set (i := 4) sc_look_for.nd rfl (.inl rfl) pe_int)
      (pss_cons (ps_while PassesOwn.never (PW.pt (pw_and (pt_cmp (pc_notN (pe_ix ix_list (pv 0) (pv 3) (fun _ _ => rfl)))) (pw_and1 (pt_val (pe_fn c_ahead (hr.mono (by decide)) pass0 (pa_cons (pe_ix ix_list (pv 0) (pv 3) (fun _ _ => rfl)) (pa_cons (pv 1) (pa_cons (pv 3) (pa_cons (pv 2) pa_nil))))))))) (pss_cons (ps_set (i := 3) sc_look_for.nd rfl (.inl rfl) (pe_op op_mod (pe_op op_add (pv 3) pe_int) (pv 2)))
      (pss_one (ps_set (i := 4) sc_look_for.nd rfl (.inl rfl) (pe_op op_add (pv 4) pe_int)))))
      (pss_one (ps_ret (pe_tup (pa_cons (pv 3) (pa_cons (pv 4) pa_nil)))))))))))
theorem cal_look_for {P : Program} {w : World} {K : PySem.W.Frag} {mg : Str → Option Value} {base : Heap} {C : Cs} (D : Def K mg "look_for" s_look_for) (B : Bl mg) (T : Top K mg C) (c_is_guest : Cal P w K mg base CX0 1 "is_guest" ["thing"] (sp_is_guest K C)) (c_home : Cal P w K mg base CX0 1 "home" ["guest", "many"] (sp_home K C)) (c_ahead : Cal P w K mg base CX0 3 "ahead" ["one", "other", "at", "many"] (sp_ahead K C)) :
    Cal P w K mg base (L2.CX P w) 4 "look_for" ["seats", "guest"] (sp_look_for K C) := by
  obtain ⟨f, fd, F, hm⟩ := D.ex
  exact ⟨f, fd, ok_look_for F B T c_is_guest c_home c_ahead, hm, F.kp, F.binds (ps := ["seats", "guest"]) fun _ _ _ _ _ _ us hl => match us, hl with | [_, _], _ => rfl⟩
abbrev s_place_of : Stmt := topS 14
theorem sc_place_of : FnScope ["seats", "guest", "at"] ["seats", "guest"] (defScope s_place_of) := ⟨rfl, rfl, rfl, by decide +kernel, rfl, by decide +kernel, by decide +kernel⟩
theorem ok_place_of {P : Program} {w : World} {K : PySem.W.Frag} {mg : Str → Option Value} {base : Heap} {C : Cs} {f : Addr} {fd : FuncData} (F : Fun K "place_of" "place_of" s_place_of f fd) (B : Bl mg) (T : Top K mg C) (c_look_for : Cal P w K mg base (L2.CX P w) 4 "look_for" ["seats", "guest"] (sp_look_for K C)) :
    FnOk P w K mg base (L2.CX P w) 5 f fd ["seats", "guest"] (sp_place_of K C) := by
  refine F.okX sc_place_of (fun vs H Q E h => len_place_of h) (fun cdv A outer s H vs Q E hr h => ⟨t_place_of K C E, ?_, pure_place_of T.f h⟩)
  have hu := hu_of hr
  exact (pss_cons (ps_set (i := 2) sc_place_of.nd rfl (.inl rfl) (pe_ix ix_tup (pe_fn c_look_for (hr.mono (by decide)) (passes_call (takes_of rfl rfl rfl rfl) (fun _ _ _ _ h => h)) (pa_cons (pv 0) (pa_cons (pv 1) pa_nil))) pe_int (fun _ _ => rfl)))
      (PSs.nox (pss_cons (ps_if (pt_cmpR op_eq (pe_ix ix_list (pv 0) (pv 2) (fun _ _ => rfl)) (pv 1) (nomark _)) (pss_one (ps_ret (pv 2))) pss_nil)
      (pss_one (ps_ret pe_non)))))
theorem cal_place_of {P : Program} {w : World} {K : PySem.W.Frag} {mg : Str → Option Value} {base : Heap} {C : Cs} (D : Def K mg "place_of" s_place_of) (B : Bl mg) (T : Top K mg C) (c_look_for : Cal P w K mg base (L2.CX P w) 4 "look_for" ["seats", "guest"] (sp_look_for K C)) :
    Cal P w K mg base (L2.CX P w) 5 "place_of" ["seats", "guest"] (sp_place_of K C) := by
  obtain ⟨f, fd, F, hm⟩ := D.ex
  exact ⟨f, fd, ok_place_of F B T c_look_for, hm, F.kp, F.binds (ps := ["seats", "guest"]) fun _ _ _ _ _ _ us hl => match us, hl with | [_, _], _ => rfl⟩
abbrev s_take_seat : Stmt := topS 16
theorem sc_take_seat : FnScope ["seats", "guest", "at", "found", "other"] ["seats", "guest"] (defScope s_take_seat) := ⟨rfl, rfl, rfl, by decide +kernel, rfl, by decide +kernel, by decide +kernel⟩
theorem ok_take_seat {P : Program} {w : World} {K : PySem.W.Frag} {mg : Str → Option Value} {base : Heap} {C : Cs} {f : Addr} {fd : FuncData} (F : Fun K "take_seat" "take_seat" s_take_seat f fd) (B : Bl mg) (T : Top K mg C) (c_look_for : Cal P w K mg base (L2.CX P w) 4 "look_for" ["seats", "guest"] (sp_look_for K C)) :
    FnOk P w K mg base (L2.CX P w) 5 f fd ["seats", "guest"] (sp_take_seat K C) := by
  refine F.okX sc_take_seat (fun vs H Q E h => len_take_seat h) (fun cdv A outer s H vs Q E hr h => ⟨t_take_seat K C E, ?_, pure_take_seat T.f h⟩)
  have hu := hu_of hr
  exact (pss_cons (ps_set (i := 2) sc_take_seat.nd rfl (.inl rfl) (pe_ix ix_tup (pe_fn c_look_for (hr.mono (by decide)) (passes_call (takes_of rfl rfl rfl rfl) (fun _ _ _ _ h => h)) (pa_cons (pv 0) (pa_cons (pv 1) pa_nil))) pe_int (fun _ _ => rfl)))
      (PSs.nox (pss_cons (ps_set (i := 3) sc_take_seat.nd rfl (.inl rfl) (pv 2))
      (pss_cons (ps_while PassesOwn.never (pt_cmp (pc_notN (pv 1))) (pss_cons (ps_set (i := 4) sc_take_seat.nd rfl (.inl rfl) (pe_ix ix_list (pv 0) (pv 2) (fun _ _ => rfl)))
      (pss_cons (ps_asg (pv 1) (pg_sub (pv 0) (pv 2) set_list))
      (pss_cons (ps_set (i := 1) sc_take_seat.nd rfl (.inl rfl) (pv 4))
      (pss_one (ps_set (i := 2) sc_take_seat.nd rfl (.inl rfl) (pe_op op_mod (pe_op op_add (pv 2) pe_int) (pe_callB call_len_seq (by rfl) B.len (by decide +kernel) (pa_cons (pv 0) pa_nil)))))))))
      (pss_one (ps_ret (pv 3)))))))
theorem cal_take_seat {P : Program} {w : World} {K : PySem.W.Frag} {mg : Str → Option Value} {base : Heap} {C : Cs} (D : Def K mg "take_seat" s_take_seat) (B : Bl mg) (T : Top K mg C) (c_look_for : Cal P w K mg base (L2.CX P w) 4 "look_for" ["seats", "guest"] (sp_look_for K C)) :
    Cal P w K mg base (L2.CX P w) 5 "take_seat" ["seats", "guest"] (sp_take_seat K C) := by
  obtain ⟨f, fd, F, hm⟩ := D.ex
  exact ⟨f, fd, ok_take_seat F B T c_look_for, hm, F.kp, F.binds (ps := ["seats", "guest"]) fun _ _ _ _ _ _ us hl => match us, hl with | [_, _], _ => rfl⟩
abbrev s_leave_seat : Stmt := topS 17
theorem sc_leave_seat : FnScope ["seats", "at", "many", "behind"] ["seats", "at"] (defScope s_leave_seat) := ⟨rfl, rfl, rfl, by decide +kernel, rfl, by decide +kernel, by decide +kernel⟩
theorem ok_leave_seat {P : Program} {w : World} {K : PySem.W.Frag} {mg : Str → Option Value} {base : Heap} {C : Cs} {f : Addr} {fd : FuncData} (F : Fun K "leave_seat" "leave_seat" s_leave_seat f fd) (B : Bl mg) (T : Top K mg C) (c_carried : Cal P w K mg base CX0 2 "carried" ["guest", "at", "many"] (sp_carried K C)) :
    FnOk P w K mg base CX0 3 f fd ["seats", "at"] (sp_leave_seat K C) := by
  refine F.ok sc_leave_seat (fun vs H Q E h => len_leave_seat h) (fun cdv A outer s H vs Q E hr h => ⟨t_leave_seat K C E, ?_, pure_leave_seat T.f h⟩)
  have hu := hu_of hr
  exact (pss_cons (ps_set (i := 2) sc_leave_seat.nd rfl (.inl rfl) (pe_callB call_len_seq (by rfl) B.len (by decide +kernel) (pa_cons (pv 0) pa_nil)))
      (pss_cons (ps_set (i := 3) sc_leave_seat.nd rfl (.inl rfl) (pe_op op_mod (pe_op op_add (pv 1) pe_int) (pv 2)))
      (pss_cons (ps_while PassesOwn.never (PW.pt (pw_and (pt_cmp (pc_notN (pe_ix ix_list (pv 0) (pv 3) (fun _ _ => rfl)))) (pw_and1 (pt_cmpR op_gt (pe_fn c_carried (hr.mono (by decide)) pass0 (pa_cons (pe_ix ix_list (pv 0) (pv 3) (fun _ _ => rfl)) (pa_cons (pv 3) (pa_cons (pv 2) pa_nil)))) pe_int (nomark _))))) (pss_cons (ps_asg (pe_ix ix_list (pv 0) (pv 3) (fun _ _ => rfl)) (pg_sub (pv 0) (pv 1) set_list))
      (pss_cons (ps_set (i := 1) sc_leave_seat.nd rfl (.inl rfl) (pv 3))
      (pss_one (ps_set (i := 3) sc_leave_seat.nd rfl (.inl rfl) (pe_op op_mod (pe_op op_add (pv 1) pe_int) (pv 2)))))))
      (pss_one (ps_asg pe_non (pg_sub (pv 0) (pv 1) set_list))))))
theorem cal_leave_seat {P : Program} {w : World} {K : PySem.W.Frag} {mg : Str → Option Value} {base : Heap} {C : Cs} (D : Def K mg "leave_seat" s_leave_seat) (B : Bl mg) (T : Top K mg C) (c_carried : Cal P w K mg base CX0 2 "carried" ["guest", "at", "many"] (sp_carried K C)) :
    Cal P w K mg base CX0 3 "leave_seat" ["seats", "at"] (sp_leave_seat K C) := by
  obtain ⟨f, fd, F, hm⟩ := D.ex
  exact ⟨f, fd, ok_leave_seat F B T c_carried, hm, F.kp, F.binds (ps := ["seats", "at"]) fun _ _ _ _ _ _ us hl => match us, hl with | [_, _], _ => rfl⟩
abbrev s_seat_in : Stmt := topS 18
theorem sc_seat_in : FnScope ["seats", "guest", "made"] ["seats", "guest"] (defScope s_seat_in) := ⟨rfl, rfl, rfl, by decide +kernel, rfl, by decide +kernel, by decide +kernel⟩
theorem ok_seat_in {P : Program} {w : World} {K : PySem.W.Frag} {mg : Str → Option Value} {base : Heap} {C : Cs} {f : Addr} {fd : FuncData} (F : Fun K "seat_in" "seat_in" s_seat_in f fd) (B : Bl mg) (T : Top K mg C) (c_place_of : Cal P w K mg base (L2.CX P w) 5 "place_of" ["seats", "guest"] (sp_place_of K C)) (c_take_seat : Cal P w K mg base (L2.CX P w) 5 "take_seat" ["seats", "guest"] (sp_take_seat K C)) :
    FnOk P w K mg base (L2.CX P w) 6 f fd ["seats", "guest"] (sp_seat_in K C) := by
  refine F.okX sc_seat_in (fun vs H Q E h => len_seat_in h) (fun cdv A outer s H vs Q E hr h => ⟨t_seat_in K C E, ?_, pure_seat_in T.f h⟩)
  have hu := hu_of hr
  exact (pss_cons (ps_if (pt_cmp (pc_notN (pe_fn c_place_of (hr.mono (by decide)) (passes_call (takes_of rfl rfl rfl rfl) (fun _ _ _ _ h => h)) (pa_cons (pv 0) (pa_cons (pv 1) pa_nil))))) (pss_one (ps_raise rfl (takes_of rfl rfl rfl rfl) (pmk_own PySem.F.excBase_ValueError (T.f.ex .twice).q T.gTwice (T.f.ex .twice).k (raises_own (T.f.ex .twice).b (T.f.ex .twice).t) (by rfl)))) pss_nil)
      (pss_cons (ps_if (pt_cmpR op_lt (pe_bm PySem.F.plainAttrs_list PySem.F.slot_list_count PySem.F.type_list_count mt_countL (pv 0) (pa_cons pe_non pa_nil)) pe_int (nomark _)) (pss_one (ps_raise rfl (takes_of rfl rfl rfl rfl) (pmk_own PySem.F.excBase_ValueError (T.f.ex .full).q T.gFull (T.f.ex .full).k (raises_own (T.f.ex .full).b (T.f.ex .full).t) (by rfl)))) pss_nil)
      (pss_cons (ps_set (i := 2) sc_seat_in.nd rfl (.inl rfl) (pe_callTy call_list_of (by rfl) B.list (by decide +kernel) (pa_cons (pv 0) pa_nil)))
      (pss_cons (ps_expr (pe_fn c_take_seat (hr.mono (by decide)) (passes_call (takes_of rfl rfl rfl rfl) (fun _ _ _ _ h => h)) (pa_cons (pv 2) (pa_cons (pv 1) pa_nil))))
      (PSs.nox (pss_one (ps_ret (pv 2))))))))
theorem cal_seat_in {P : Program} {w : World} {K : PySem.W.Frag} {mg : Str → Option Value} {base : Heap} {C : Cs} (D : Def K mg "seat_in" s_seat_in) (B : Bl mg) (T : Top K mg C) (c_place_of : Cal P w K mg base (L2.CX P w) 5 "place_of" ["seats", "guest"] (sp_place_of K C)) (c_take_seat : Cal P w K mg base (L2.CX P w) 5 "take_seat" ["seats", "guest"] (sp_take_seat K C)) :
    Cal P w K mg base (L2.CX P w) 6 "seat_in" ["seats", "guest"] (sp_seat_in K C) := by
  obtain ⟨f, fd, F, hm⟩ := D.ex
  exact ⟨f, fd, ok_seat_in F B T c_place_of c_take_seat, hm, F.kp, F.binds (ps := ["seats", "guest"]) fun _ _ _ _ _ _ us hl => match us, hl with | [_, _], _ => rfl⟩
abbrev s_seat_out : Stmt := topS 19
theorem sc_seat_out : FnScope ["seats", "guest", "at", "made"] ["seats", "guest"] (defScope s_seat_out) := ⟨rfl, rfl, rfl, by decide +kernel, rfl, by decide +kernel, by decide +kernel⟩
theorem ok_seat_out {P : Program} {w : World} {K : PySem.W.Frag} {mg : Str → Option Value} {base : Heap} {C : Cs} {f : Addr} {fd : FuncData} (F : Fun K "seat_out" "seat_out" s_seat_out f fd) (B : Bl mg) (T : Top K mg C) (c_place_of : Cal P w K mg base (L2.CX P w) 5 "place_of" ["seats", "guest"] (sp_place_of K C)) (c_leave_seat : Cal P w K mg base CX0 3 "leave_seat" ["seats", "at"] (sp_leave_seat K C)) :
    FnOk P w K mg base (L2.CX P w) 6 f fd ["seats", "guest"] (sp_seat_out K C) := by
  refine F.okX sc_seat_out (fun vs H Q E h => len_seat_out h) (fun cdv A outer s H vs Q E hr h => ⟨t_seat_out K C E, ?_, pure_seat_out T.f h⟩)
  have hu := hu_of hr
  exact (pss_cons (ps_set (i := 2) sc_seat_out.nd rfl (.inl rfl) (pe_fn c_place_of (hr.mono (by decide)) (passes_call (takes_of rfl rfl rfl rfl) (fun _ _ _ _ h => h)) (pa_cons (pv 0) (pa_cons (pv 1) pa_nil))))
      (pss_cons (ps_if (pt_cmp (pc_isN (pv 2))) (pss_one (ps_raise rfl (takes_of rfl rfl rfl rfl) (pmk_own PySem.F.excBase_ValueError (T.f.ex .away).q T.gAway (T.f.ex .away).k (raises_own (T.f.ex .away).b (T.f.ex .away).t) (by rfl)))) pss_nil)
      (PSs.nox (pss_cons (ps_set (i := 3) sc_seat_out.nd rfl (.inl rfl) (pe_callTy call_list_of (by rfl) B.list (by decide +kernel) (pa_cons (pv 0) pa_nil)))
      (pss_cons (ps_expr (pe_fn c_leave_seat (hr.mono (by decide)) pass0 (pa_cons (pv 3) (pa_cons (pv 2) pa_nil))))
      (pss_one (ps_ret (pv 3))))))))
theorem cal_seat_out {P : Program} {w : World} {K : PySem.W.Frag} {mg : Str → Option Value} {base : Heap} {C : Cs} (D : Def K mg "seat_out" s_seat_out) (B : Bl mg) (T : Top K mg C) (c_place_of : Cal P w K mg base (L2.CX P w) 5 "place_of" ["seats", "guest"] (sp_place_of K C)) (c_leave_seat : Cal P w K mg base CX0 3 "leave_seat" ["seats", "at"] (sp_leave_seat K C)) :
    Cal P w K mg base (L2.CX P w) 6 "seat_out" ["seats", "guest"] (sp_seat_out K C) := by
  obtain ⟨f, fd, F, hm⟩ := D.ex
  exact ⟨f, fd, ok_seat_out F B T c_place_of c_leave_seat, hm, F.kp, F.binds (ps := ["seats", "guest"]) fun _ _ _ _ _ _ us hl => match us, hl with | [_, _], _ => rfl⟩
abbrev s_looked_through : Stmt := topS 20
theorem sc_looked_through : FnScope ["guests", "many", "guest"] ["guests", "many"] (defScope s_looked_through) := ⟨rfl, rfl, rfl, by decide +kernel, rfl, by decide +kernel, by decide +kernel⟩
theorem ok_looked_through {P : Program} {w : World} {K : PySem.W.Frag} {mg : Str → Option Value} {base : Heap} {C : Cs} {f : Addr} {fd : FuncData} (F : Fun K "looked_through" "looked_through" s_looked_through f fd) (B : Bl mg) (T : Top K mg C) (c_is_guest : Cal P w K mg base CX0 1 "is_guest" ["thing"] (sp_is_guest K C)) :
    FnOk P w K mg base (L2.CX P w) 2 f fd ["guests", "many"] (sp_looked_through K C) := by
  refine F.okX sc_looked_through (fun vs H Q E h => len_looked_through h) (fun cdv A outer s H vs Q E hr h => ⟨t_looked_through K C E, ?_, pure_looked_through T.f h⟩)
  have hu := hu_of hr
  exact (pss_cons (ps_for (passes_of rfl) rfl (pi_list (pv 0)) (pg_name (i := 2) sc_looked_through.nd rfl (.inl rfl)) (pss_one (ps_if (pt_not (pt_val (pe_fn c_is_guest (hr.mono (by decide)) pass0 (pa_cons (pv 2) pa_nil)))) (pss_one (ps_raise rfl (takes_of rfl rfl rfl rfl) (pmk_own PySem.F.excBase_ValueError (T.f.ex .noGuest).q T.gNoGuest (T.f.ex .noGuest).k (raises_own (T.f.ex .noGuest).b (T.f.ex .noGuest).t) (by rfl)))) pss_nil)))
      (pss_cons (ps_if (pt_cmpR op_lt (pe_lenSet B.len B.set (pv 0)) (pe_callB call_len_seq (by rfl) B.len (by decide +kernel) (pa_cons (pv 0) pa_nil)) (nomark _)) (pss_one (ps_raise rfl (takes_of rfl rfl rfl rfl) (pmk_own PySem.F.excBase_ValueError (T.f.ex .twice).q T.gTwice (T.f.ex .twice).k (raises_own (T.f.ex .twice).b (T.f.ex .twice).t) (by rfl)))) pss_nil)
      (pss_one (ps_if (pt_cmpR op_ge (pe_callB call_len_seq (by rfl) B.len (by decide +kernel) (pa_cons (pv 0) pa_nil)) (pv 1) (nomark _)) (pss_one (ps_raise rfl (takes_of rfl rfl rfl rfl) (pmk_own PySem.F.excBase_ValueError (T.f.ex .full).q T.gFull (T.f.ex .full).k (raises_own (T.f.ex .full).b (T.f.ex .full).t) (by rfl)))) pss_nil))))
theorem cal_looked_through {P : Program} {w : World} {K : PySem.W.Frag} {mg : Str → Option Value} {base : Heap} {C : Cs} (D : Def K mg "looked_through" s_looked_through) (B : Bl mg) (T : Top K mg C) (c_is_guest : Cal P w K mg base CX0 1 "is_guest" ["thing"] (sp_is_guest K C)) :
    Cal P w K mg base (L2.CX P w) 2 "looked_through" ["guests", "many"] (sp_looked_through K C) := by
  obtain ⟨f, fd, F, hm⟩ := D.ex
  exact ⟨f, fd, ok_looked_through F B T c_is_guest, hm, F.kp, F.binds (ps := ["guests", "many"]) fun _ _ _ _ _ _ us hl => match us, hl with | [_, _], _ => rfl⟩
abbrev s_seated : Stmt := topS 21
theorem sc_seated : FnScope ["guests", "many", "seats", "guest"] ["guests", "many"] (defScope s_seated) := ⟨rfl, rfl, rfl, by decide +kernel, rfl, by decide +kernel, by decide +kernel⟩
theorem ok_seated {P : Program} {w : World} {K : PySem.W.Frag} {mg : Str → Option Value} {base : Heap} {C : Cs} {f : Addr} {fd : FuncData} (F : Fun K "seated" "seated" s_seated f fd) (B : Bl mg) (T : Top K mg C) (c_looked_through : Cal P w K mg base (L2.CX P w) 2 "looked_through" ["guests", "many"] (sp_looked_through K C)) (c_take_seat : Cal P w K mg base (L2.CX P w) 5 "take_seat" ["seats", "guest"] (sp_take_seat K C)) :
    FnOk P w K mg base (L2.CX P w) 6 f fd ["guests", "many"] (sp_seated K C) := by
  refine F.okX sc_seated (fun vs H Q E h => len_seated h) (fun cdv A outer s H vs Q E hr h => ⟨t_seated K C E, ?_, pure_seated T.f h⟩)
  have hu := hu_of hr
  exact (pss_cons (ps_expr (pe_fn c_looked_through (hr.mono (by decide)) (passes_call (takes_of rfl rfl rfl rfl) (fun _ _ _ _ h => h)) (pa_cons (pv 0) (pa_cons (pv 1) pa_nil))))
      (pss_cons (ps_set (i := 2) sc_seated.nd rfl (.inl rfl) (pe_op op_rep (pe_lst (pa_cons pe_non pa_nil)) (pv 1)))
      (pss_cons (ps_for (passes_of rfl) rfl (pi_list (pv 0)) (pg_name (i := 3) sc_seated.nd rfl (.inl rfl)) (pss_one (ps_expr (pe_fn c_take_seat (hr.mono (by decide)) (passes_call (takes_of rfl rfl rfl rfl) (fun _ _ _ _ h => h)) (pa_cons (pv 2) (pa_cons (pv 3) pa_nil))))))
      (PSs.nox (pss_one (ps_ret (pv 2)))))))
theorem cal_seated {P : Program} {w : World} {K : PySem.W.Frag} {mg : Str → Option Value} {base : Heap} {C : Cs} (D : Def K mg "seated" s_seated) (B : Bl mg) (T : Top K mg C) (c_looked_through : Cal P w K mg base (L2.CX P w) 2 "looked_through" ["guests", "many"] (sp_looked_through K C)) (c_take_seat : Cal P w K mg base (L2.CX P w) 5 "take_seat" ["seats", "guest"] (sp_take_seat K C)) :
    Cal P w K mg base (L2.CX P w) 6 "seated" ["guests", "many"] (sp_seated K C) := by
  obtain ⟨f, fd, F, hm⟩ := D.ex
  exact ⟨f, fd, ok_seated F B T c_looked_through c_take_seat, hm, F.kp, F.binds (ps := ["guests", "many"]) fun _ _ _ _ _ _ us hl => match us, hl with | [_, _], _ => rfl⟩
abbrev s_law_cell_at : Stmt := topS 23
theorem sc_law_cell_at : FnScope ["_law_script", "_law_k"] ["_law_script", "_law_k"] (defScope s_law_cell_at) := ⟨rfl, rfl, rfl, by decide +kernel, rfl, by decide +kernel, by decide +kernel⟩
theorem ok_law_cell_at {P : Program} {w : World} {K : PySem.W.Frag} {mg : Str → Option Value} {base : Heap} {C : Cs} {f : Addr} {fd : FuncData} (F : Fun K "_law_cell_at" "_law_cell_at" s_law_cell_at f fd) (B : Bl mg) (T : Top K mg C) :
    FnOk P w K mg base CX0 1 f fd ["_law_script", "_law_k"] (sp_law_cell_at K C) := by
  refine F.ok sc_law_cell_at (fun vs H Q E h => len_law_cell_at h) (fun cdv A outer s H vs Q E hr h => ⟨t_law_cell_at K C E, ?_, pure_law_cell_at T.f h⟩)
  have hu := hu_of hr
  exact (pss_cons (ps_if (pt_cmpR op_lt (pv 1) (pe_callB call_len_seq (by rfl) B.len (by decide +kernel) (pa_cons (pv 0) pa_nil)) (nomark _)) (pss_one (ps_ret (pe_ix ix_list (pv 0) (pv 1) (fun _ _ => rfl)))) pss_nil)
      (pss_one (ps_ret pe_int)))
theorem cal_law_cell_at {P : Program} {w : World} {K : PySem.W.Frag} {mg : Str → Option Value} {base : Heap} {C : Cs} (D : Def K mg "_law_cell_at" s_law_cell_at) (B : Bl mg) (T : Top K mg C) :
    Cal P w K mg base CX0 1 "_law_cell_at" ["_law_script", "_law_k"] (sp_law_cell_at K C) := by
  obtain ⟨f, fd, F, hm⟩ := D.ex
  exact ⟨f, fd, ok_law_cell_at F B T, hm, F.kp, F.binds (ps := ["_law_script", "_law_k"]) fun _ _ _ _ _ _ us hl => match us, hl with | [_, _], _ => rfl⟩
abbrev s_law_whole : Stmt := topS 24
theorem sc_law_whole : FnScope ["_law_found"] ["_law_found"] (defScope s_law_whole) := ⟨rfl, rfl, rfl, by decide +kernel, rfl, by decide +kernel, by decide +kernel⟩
theorem ok_law_whole {P : Program} {w : World} {K : PySem.W.Frag} {mg : Str → Option Value} {base : Heap} {C : Cs} {f : Addr} {fd : FuncData} (F : Fun K "_law_whole" "_law_whole" s_law_whole f fd) (B : Bl mg) (T : Top K mg C) :
    FnOk P w K mg base CX0 1 f fd ["_law_found"] (sp_law_whole K C) := by
  refine F.ok sc_law_whole (fun vs H Q E h => len_law_whole h) (fun cdv A outer s H vs Q E hr h => ⟨t_law_whole K C E, ?_, pure_law_whole T.f h⟩)
  have hu := hu_of hr
  exact (pss_one (ps_ret (pe_and (pe_callB call_isA (by rfl) B.isinstance (by decide +kernel) (pa_cons (pv 0) (pa_cons (pe_bltn (v := .ty "int") (by rfl) B.int (by decide +kernel) rfl) pa_nil))) (pe_one (pe_not (pe_callB call_isA (by rfl) B.isinstance (by decide +kernel) (pa_cons (pv 0) (pa_cons (pe_bltn (v := .ty "bool") (by rfl) B.bool (by decide +kernel) rfl) pa_nil))))))))
theorem cal_law_whole {P : Program} {w : World} {K : PySem.W.Frag} {mg : Str → Option Value} {base : Heap} {C : Cs} (D : Def K mg "_law_whole" s_law_whole) (B : Bl mg) (T : Top K mg C) :
    Cal P w K mg base CX0 1 "_law_whole" ["_law_found"] (sp_law_whole K C) := by
  obtain ⟨f, fd, F, hm⟩ := D.ex
  exact ⟨f, fd, ok_law_whole F B T, hm, F.kp, F.binds (ps := ["_law_found"]) fun _ _ _ _ _ _ us hl => match us, hl with | [_], _ => rfl⟩
abbrev s_law_home : Stmt := topS 25
theorem sc_law_home : FnScope ["_law_guest_here", "_law_many"] ["_law_guest_here", "_law_many"] (defScope s_law_home) := ⟨rfl, rfl, rfl, by decide +kernel, rfl, by decide +kernel, by decide +kernel⟩
theorem ok_law_home {P : Program} {w : World} {K : PySem.W.Frag} {mg : Str → Option Value} {base : Heap} {C : Cs} {f : Addr} {fd : FuncData} (F : Fun K "_law_home" "_law_home" s_law_home f fd) (B : Bl mg) (T : Top K mg C) :
    FnOk P w K mg base CX0 1 f fd ["_law_guest_here", "_law_many"] (sp_law_home K C) := by
  refine F.ok sc_law_home (fun vs H Q E h => len_law_home h) (fun cdv A outer s H vs Q E hr h => ⟨t_law_home K C E, ?_, pure_law_home T.f h⟩)
  have hu := hu_of hr
  exact (pss_one (ps_ret (pe_op op_mod (pe_op op_mod (pe_op op_add (pe_op op_mulL (pv 0) pe_int) (pe_op op_fdiv (pv 0) pe_int)) pe_int) (pv 1))))
theorem cal_law_home {P : Program} {w : World} {K : PySem.W.Frag} {mg : Str → Option Value} {base : Heap} {C : Cs} (D : Def K mg "_law_home" s_law_home) (B : Bl mg) (T : Top K mg C) :
    Cal P w K mg base CX0 1 "_law_home" ["_law_guest_here", "_law_many"] (sp_law_home K C) := by
  obtain ⟨f, fd, F, hm⟩ := D.ex
  exact ⟨f, fd, ok_law_home F B T, hm, F.kp, F.binds (ps := ["_law_guest_here", "_law_many"]) fun _ _ _ _ _ _ us hl => match us, hl with | [_, _], _ => rfl⟩
abbrev s_law_base : Stmt := topS 26
theorem sc_law_base : FnScope ["_law_cell"] ["_law_cell"] (defScope s_law_base) := ⟨rfl, rfl, rfl, by decide +kernel, rfl, by decide +kernel, by decide +kernel⟩
theorem ok_law_base {P : Program} {w : World} {K : PySem.W.Frag} {mg : Str → Option Value} {base : Heap} {C : Cs} {f : Addr} {fd : FuncData} (F : Fun K "_law_base" "_law_base" s_law_base f fd) (B : Bl mg) (T : Top K mg C) :
    FnOk P w K mg base CX0 1 f fd ["_law_cell"] (sp_law_base K C) := by
  refine F.ok sc_law_base (fun vs H Q E h => len_law_base h) (fun cdv A outer s H vs Q E hr h => ⟨t_law_base K C E, ?_, pure_law_base T.f h⟩)
  have hu := hu_of hr
  exact (pss_cons (ps_if (pt_cmpR op_eq (pe_op op_mod (pv 0) pe_int) pe_int (nomark _)) (pss_one (ps_ret (pe_op op_mod (pe_op op_fdiv (pv 0) pe_int) (pe_pow (m := 10) (n := 58) (N := 10000000000000000000000000000000000000000000000000000000000) rfl rfl (by decide +kernel) (by decide) (by decide))))) pss_nil)
      (pss_one (ps_ret (pe_op op_mod (pe_op op_fdiv (pv 0) pe_int) pe_int))))
theorem cal_law_base {P : Program} {w : World} {K : PySem.W.Frag} {mg : Str → Option Value} {base : Heap} {C : Cs} (D : Def K mg "_law_base" s_law_base) (B : Bl mg) (T : Top K mg C) :
    Cal P w K mg base CX0 1 "_law_base" ["_law_cell"] (sp_law_base K C) := by
  obtain ⟨f, fd, F, hm⟩ := D.ex
  exact ⟨f, fd, ok_law_base F B T, hm, F.kp, F.binds (ps := ["_law_cell"]) fun _ _ _ _ _ _ us hl => match us, hl with | [_], _ => rfl⟩
abbrev s_law_guest : Stmt := topS 27
theorem sc_law_guest : FnScope ["_law_cell", "_law_base_here", "_law_number"] ["_law_cell", "_law_base_here"] (defScope s_law_guest) := ⟨rfl, rfl, rfl, by decide +kernel, rfl, by decide +kernel, by decide +kernel⟩
theorem ok_law_guest {P : Program} {w : World} {K : PySem.W.Frag} {mg : Str → Option Value} {base : Heap} {C : Cs} {f : Addr} {fd : FuncData} (F : Fun K "_law_guest" "_law_guest" s_law_guest f fd) (B : Bl mg) (T : Top K mg C) :
    FnOk P w K mg base CX0 1 f fd ["_law_cell", "_law_base_here"] (sp_law_guest K C) := by
  refine F.ok sc_law_guest (fun vs H Q E h => len_law_guest h) (fun cdv A outer s H vs Q E hr h => ⟨t_law_guest K C E, ?_, pure_law_guest T.f h⟩)
  have hu := hu_of hr
  exact (pss_cons (ps_set (i := 2) sc_law_guest.nd rfl (.inl rfl) (pe_op op_fdiv (pv 0) pe_int))
      (pss_cons (ps_if (pt_cmpR op_eq (pe_op op_mod (pv 0) pe_int) pe_int (nomark _)) (pss_one (ps_ret (pe_op op_mod (pv 2) (pe_pow (m := 10) (n := 60) (N := 1000000000000000000000000000000000000000000000000000000000000) rfl rfl (by decide +kernel) (by decide) (by decide))))) pss_nil)
      (pss_cons (ps_if (pt_cmpR op_eq (pe_op op_mod (pv 0) pe_int) pe_int (nomark _)) (pss_one (ps_ret (pe_op op_mod (pv 2) pe_int))) pss_nil)
      (pss_cons (ps_if (pt_cmpR op_eq (pe_op op_mod (pv 0) pe_int) pe_int (nomark _)) (pss_one (ps_ret (pe_op op_add (pv 1) (pe_op op_mulL (pe_pow (m := 2) (n := 32) (N := 4294967296) rfl rfl (by decide +kernel) (by decide) (by decide)) (pe_op op_mod (pv 2) (pe_pow (m := 10) (n := 40) (N := 10000000000000000000000000000000000000000) rfl rfl (by decide +kernel) (by decide) (by decide))))))) pss_nil)
      (pss_cons (ps_if (pt_cmpR op_eq (pe_op op_mod (pv 0) pe_int) pe_int (nomark _)) (pss_one (ps_ret (pe_op op_add (pv 1) (pe_op op_mulL pe_int (pe_op op_mod (pv 2) pe_int))))) pss_nil)
      (pss_one (ps_ret (pe_op op_add (pe_op op_add (pv 1) (pe_op op_mulL pe_int (pe_op op_mod (pv 2) pe_int))) (pe_op op_mulL (pe_pow (m := 2) (n := 32) (N := 4294967296) rfl rfl (by decide +kernel) (by decide) (by decide)) (pe_op op_mod (pe_op op_fdiv (pv 2) pe_int) pe_int))))))))))
theorem cal_law_guest {P : Program} {w : World} {K : PySem.W.Frag} {mg : Str → Option Value} {base : Heap} {C : Cs} (D : Def K mg "_law_guest" s_law_guest) (B : Bl mg) (T : Top K mg C) :
    Cal P w K mg base CX0 1 "_law_guest" ["_law_cell", "_law_base_here"] (sp_law_guest K C) := by
  obtain ⟨f, fd, F, hm⟩ := D.ex
  exact ⟨f, fd, ok_law_guest F B T, hm, F.kp, F.binds (ps := ["_law_cell", "_law_base_here"]) fun _ _ _ _ _ _ us hl => match us, hl with | [_, _], _ => rfl⟩
abbrev s_law_drawn : Stmt := topS 28
theorem sc_law_drawn : FnScope ["_law_cells", "_law_base_here", "_law_seen", "_law_cell"] ["_law_cells", "_law_base_here"] (defScope s_law_drawn) := ⟨rfl, rfl, rfl, by decide +kernel, rfl, by decide +kernel, by decide +kernel⟩
theorem ok_law_drawn {P : Program} {w : World} {K : PySem.W.Frag} {mg : Str → Option Value} {base : Heap} {C : Cs} {f : Addr} {fd : FuncData} (F : Fun K "_law_drawn" "_law_drawn" s_law_drawn f fd) (B : Bl mg) (T : Top K mg C) (c_law_guest : Cal P w K mg base CX0 1 "_law_guest" ["_law_cell", "_law_base_here"] (sp_law_guest K C)) :
    FnOk P w K mg base CX0 2 f fd ["_law_cells", "_law_base_here"] (sp_law_drawn K C) := by
  refine F.ok sc_law_drawn (fun vs H Q E h => len_law_drawn h) (fun cdv A outer s H vs Q E hr h => ⟨t_law_drawn K C E, ?_, pure_law_drawn T.f h⟩)
  have hu := hu_of hr
  exact (pss_cons (ps_set (i := 2) sc_law_drawn.nd rfl (.inl rfl) pe_dnewK)
      (pss_cons (ps_for PassesOwn.never rfl (pi_list (pv 0)) (pg_name (i := 3) sc_law_drawn.nd rfl (.inl rfl)) (pss_one (ps_dput hu (pv 2) (pe_fn c_law_guest (hr.mono (by decide)) pass0 (pa_cons (pv 3) (pa_cons (pv 1) pa_nil))) pe_bl rfl)))
      (pss_one (ps_ret (pe_callTy (call_list_dK rfl) (by rfl) B.list (by decide +kernel) (pa_cons (pv 2) pa_nil))))))
theorem cal_law_drawn {P : Program} {w : World} {K : PySem.W.Frag} {mg : Str → Option Value} {base : Heap} {C : Cs} (D : Def K mg "_law_drawn" s_law_drawn) (B : Bl mg) (T : Top K mg C) (c_law_guest : Cal P w K mg base CX0 1 "_law_guest" ["_law_cell", "_law_base_here"] (sp_law_guest K C)) :
    Cal P w K mg base CX0 2 "_law_drawn" ["_law_cells", "_law_base_here"] (sp_law_drawn K C) := by
  obtain ⟨f, fd, F, hm⟩ := D.ex
  exact ⟨f, fd, ok_law_drawn F B T c_law_guest, hm, F.kp, F.binds (ps := ["_law_cells", "_law_base_here"]) fun _ _ _ _ _ _ us hl => match us, hl with | [_, _], _ => rfl⟩
abbrev s_law_settled : Stmt := topS 29
theorem sc_law_settled : FnScope ["_law_seats", "_law_many", "_law_guests", "_law_at", "_law_way", "_law_before", "_law_guest_here"] ["_law_seats", "_law_many", "_law_guests"] (defScope s_law_settled) := ⟨rfl, rfl, rfl, by decide +kernel, rfl, by decide +kernel, by decide +kernel⟩
theorem ok_law_settled {P : Program} {w : World} {K : PySem.W.Frag} {mg : Str → Option Value} {base : Heap} {C : Cs} {f : Addr} {fd : FuncData} (F : Fun K "_law_settled" "_law_settled" s_law_settled f fd) (B : Bl mg) (T : Top K mg C) (c_law_whole : Cal P w K mg base CX0 1 "_law_whole" ["_law_found"] (sp_law_whole K C)) (c_law_home : Cal P w K mg base CX0 1 "_law_home" ["_law_guest_here", "_law_many"] (sp_law_home K C)) :
    FnOk P w K mg base CX0 2 f fd ["_law_seats", "_law_many", "_law_guests"] (sp_law_settled K C) := by
  refine F.ok sc_law_settled (fun vs H Q E h => len_law_settled h) (fun cdv A outer s H vs Q E hr h => ⟨t_law_settled K C E, ?_, pure_law_settled T.f h⟩)
  have hu := hu_of hr
  exact (pss_cons (ps_if (PW.pt (pw_or (pt_not (pt_val (pe_callB call_isA (by rfl) B.isinstance (by decide +kernel) (pa_cons (pv 0) (pa_cons (pe_bltn (v := .ty "list") (by rfl) B.list (by decide +kernel) rfl) pa_nil))))) (pw_or (pt_cmpR op_ne (pe_callB call_len_seq (by rfl) B.len (by decide +kernel) (pa_cons (pv 0) pa_nil)) (pv 1) (nomark _)) (pw_or1 (pt_cmpR op_notIn_seq pe_non (pv 0) (by rfl)))))) (pss_one (ps_ret pe_bl)) pss_nil)
      (pss_cons (ps_for PassesOwn.never rfl (pi_range1 (by rfl) B.range (pa_cons (pv 1) pa_nil)) (pg_name (i := 3) sc_law_settled.nd rfl (.inl rfl)) (pss_one (ps_if (pt_cmp (pc_notN (pe_ix ix_list (pv 0) (pv 3) (fun _ _ => rfl)))) (pss_cons (ps_if (pt_not (pt_val (pe_fn c_law_whole (hr.mono (by decide)) pass0 (pa_cons (pe_ix ix_list (pv 0) (pv 3) (fun _ _ => rfl)) pa_nil)))) (pss_one (ps_ret pe_bl)) pss_nil)
      (pss_cons (ps_set (i := 4) sc_law_settled.nd rfl (.inl rfl) (pe_op op_mod (pe_op op_sub (pv 3) (pe_fn c_law_home (hr.mono (by decide)) pass0 (pa_cons (pe_ix ix_list (pv 0) (pv 3) (fun _ _ => rfl)) (pa_cons (pv 1) pa_nil)))) (pv 1)))
      (pss_cons (ps_if (PW.pt (pw_and (pt_cmpR op_gt (pv 4) pe_int (nomark _)) (pw_and1 (pt_cmp (pc_isN (pe_ix ix_list (pv 0) (pe_op op_sub (pv 3) pe_int) (fun _ _ => rfl))))))) (pss_one (ps_ret pe_bl)) pss_nil)
      (pss_one (ps_if (pt_cmpR op_gt (pv 4) pe_int (nomark _)) (pss_cons (ps_set (i := 5) sc_law_settled.nd rfl (.inl rfl) (pe_op op_add (pe_op op_mod (pe_op op_sub (pe_op op_sub (pv 3) pe_int) (pe_fn c_law_home (hr.mono (by decide)) pass0 (pa_cons (pe_ix ix_list (pv 0) (pe_op op_sub (pv 3) pe_int) (fun _ _ => rfl)) (pa_cons (pv 1) pa_nil)))) (pv 1)) pe_int))
      (pss_one (ps_if (PW.pt (pw_or (pt_cmpR op_lt (pv 5) (pv 4) (nomark _)) (pw_or1 (PW.pt (pw_and (pt_cmpR op_eq (pv 5) (pv 4) (nomark _)) (pw_and1 (pt_cmpR op_ge (pe_ix ix_list (pv 0) (pe_op op_sub (pv 3) pe_int) (fun _ _ => rfl)) (pe_ix ix_list (pv 0) (pv 3) (fun _ _ => rfl)) (nomark _)))))))) (pss_one (ps_ret pe_bl)) pss_nil))) pss_nil))))) pss_nil)))
      (pss_one (ps_ret (pe_cmpR (op_eqD hr.units) (pe_callB cr_sortedI (by rfl) B.sorted (by decide +kernel) (pa_cons (pe_lc (own := [("_law_guest_here", 6)]) (g := gName 6) rfl sc_law_settled.nd (pi_list (pv 0)) (blkOk_by (N := ["_law_seats", "_law_many", "_law_guests", "_law_at", "_law_way", "_law_before", "_law_guest_here"]) (sc := defScope s_law_settled) (by decide +kernel)) (fun _ _ _ _ _ => pg_name (i := 6) sc_law_settled.nd rfl (Or.inl rfl)) (fun _ _ _ _ _ => (pts_one (pt_cmp (pc_notN (pv 6))))) (fun _ _ _ _ _ => (pv 6))) pa_nil)) (pe_callB cr_sortedI (by rfl) B.sorted (by decide +kernel) (pa_cons (pv 2) pa_nil)) (nomark _))))))
theorem cal_law_settled {P : Program} {w : World} {K : PySem.W.Frag} {mg : Str → Option Value} {base : Heap} {C : Cs} (D : Def K mg "_law_settled" s_law_settled) (B : Bl mg) (T : Top K mg C) (c_law_whole : Cal P w K mg base CX0 1 "_law_whole" ["_law_found"] (sp_law_whole K C)) (c_law_home : Cal P w K mg base CX0 1 "_law_home" ["_law_guest_here", "_law_many"] (sp_law_home K C)) :
    Cal P w K mg base CX0 2 "_law_settled" ["_law_seats", "_law_many", "_law_guests"] (sp_law_settled K C) := by
  obtain ⟨f, fd, F, hm⟩ := D.ex
  exact ⟨f, fd, ok_law_settled F B T c_law_whole c_law_home, hm, F.kp, F.binds (ps := ["_law_seats", "_law_many", "_law_guests"]) fun _ _ _ _ _ _ us hl => match us, hl with | [_, _, _], _ => rfl⟩
abbrev s_law_same : Stmt := topS 30
theorem sc_law_same : FnScope ["_law_found", "_law_seats", "_law_one", "_law_other"] ["_law_found", "_law_seats"] (defScope s_law_same) := ⟨rfl, rfl, rfl, by decide +kernel, rfl, by decide +kernel, by decide +kernel⟩
theorem ok_law_same {P : Program} {w : World} {K : PySem.W.Frag} {mg : Str → Option Value} {base : Heap} {C : Cs} {f : Addr} {fd : FuncData} (F : Fun K "_law_same" "_law_same" s_law_same f fd) (B : Bl mg) (T : Top K mg C) (c_law_whole : Cal P w K mg base CX0 1 "_law_whole" ["_law_found"] (sp_law_whole K C)) :
    FnOk P w K mg base CX0 2 f fd ["_law_found", "_law_seats"] (sp_law_same K C) := by
  refine F.ok sc_law_same (fun vs H Q E h => len_law_same h) (fun cdv A outer s H vs Q E hr h => ⟨t_law_same K C E, ?_, pure_law_same T.f h⟩)
  have hu := hu_of hr
  exact (pss_cons (ps_if (PW.pt (pw_or (pt_not (pt_val (pe_callB call_isA (by rfl) B.isinstance (by decide +kernel) (pa_cons (pv 0) (pa_cons (pe_bltn (v := .ty "list") (by rfl) B.list (by decide +kernel) rfl) pa_nil))))) (pw_or1 (pt_cmpR op_ne (pe_callB call_len_seq (by rfl) B.len (by decide +kernel) (pa_cons (pv 0) pa_nil)) (pe_callB call_len_seq (by rfl) B.len (by decide +kernel) (pa_cons (pv 1) pa_nil)) (nomark _))))) (pss_one (ps_ret pe_bl)) pss_nil)
      (pss_cons (ps_for PassesOwn.never rfl (pi_zip (by rfl) B.zip (pa_cons (pv 0) (pa_cons (pv 1) pa_nil))) (pg_tup (by rfl) (pgs_cons (pg_name (i := 2) sc_law_same.nd rfl (.inl rfl)) (pgs_cons (pg_name (i := 3) sc_law_same.nd rfl (.inl rfl)) pgs_nil))) (pss_cons (ps_if (PW.pt (pw_and (pt_cmp (pc_notN (pv 2))) (pw_and1 (pt_not (pt_val (pe_fn c_law_whole (hr.mono (by decide)) pass0 (pa_cons (pv 2) pa_nil))))))) (pss_one (ps_ret pe_bl)) pss_nil)
      (pss_one (ps_if (pt_cmpR op_ne (pv 2) (pv 3) (nomark _)) (pss_one (ps_ret pe_bl)) pss_nil))))
      (pss_one (ps_ret pe_bl))))
theorem cal_law_same {P : Program} {w : World} {K : PySem.W.Frag} {mg : Str → Option Value} {base : Heap} {C : Cs} (D : Def K mg "_law_same" s_law_same) (B : Bl mg) (T : Top K mg C) (c_law_whole : Cal P w K mg base CX0 1 "_law_whole" ["_law_found"] (sp_law_whole K C)) :
    Cal P w K mg base CX0 2 "_law_same" ["_law_found", "_law_seats"] (sp_law_same K C) := by
  obtain ⟨f, fd, F, hm⟩ := D.ex
  exact ⟨f, fd, ok_law_same F B T c_law_whole, hm, F.kp, F.binds (ps := ["_law_found", "_law_seats"]) fun _ _ _ _ _ _ us hl => match us, hl with | [_, _], _ => rfl⟩
abbrev s_law_turned : Stmt := topS 31
theorem sc_law_turned : FnScope ["_law_guests", "_law_cells", "_law_rest", "_law_found", "_law_k", "_law_at"] ["_law_guests", "_law_cells"] (defScope s_law_turned) := ⟨rfl, rfl, rfl, by decide +kernel, rfl, by decide +kernel, by decide +kernel⟩
theorem ok_law_turned {P : Program} {w : World} {K : PySem.W.Frag} {mg : Str → Option Value} {base : Heap} {C : Cs} {f : Addr} {fd : FuncData} (F : Fun K "_law_turned" "_law_turned" s_law_turned f fd) (B : Bl mg) (T : Top K mg C) :
    FnOk P w K mg base CX0 1 f fd ["_law_guests", "_law_cells"] (sp_law_turned K C) := by
  refine F.ok sc_law_turned (fun vs H Q E h => len_law_turned h) (fun cdv A outer s H vs Q E hr h => ⟨t_law_turned K C E, ?_, pure_law_turned T.f h⟩)
  have hu := hu_of hr
  exact (pss_cons (ps_set (i := 2) sc_law_turned.nd rfl (.inl rfl) (pe_callTy call_list_of (by rfl) B.list (by decide +kernel) (pa_cons (pv 0) pa_nil)))
      (pss_cons (ps_set (i := 3) sc_law_turned.nd rfl (.inl rfl) (pe_lst pa_nil))
      (pss_cons (ps_for PassesOwn.never rfl (pi_range1 (by rfl) B.range (pa_cons (pe_callB call_len_seq (by rfl) B.len (by decide +kernel) (pa_cons (pv 0) pa_nil)) pa_nil)) (pg_name (i := 4) sc_law_turned.nd rfl (.inl rfl)) (pss_cons (ps_set (i := 5) sc_law_turned.nd rfl (.inl rfl) (pe_op op_mod (pe_op op_mod (pe_op op_mulL (pe_op op_mod (pe_ix ix_list (pv 1) (pv 4) (fun _ _ => rfl)) (pe_pow (m := 10) (n := 12) (N := 1000000000000) rfl rfl (by decide +kernel) (by decide) (by decide))) pe_int) pe_int) (pe_callB call_len_seq (by rfl) B.len (by decide +kernel) (pa_cons (pv 2) pa_nil))))
      (pss_one (ps_expr (pe_bm PySem.F.plainAttrs_list PySem.F.slot_list_append PySem.F.type_list_append mt_append (pv 3) (pa_cons (pe_bm PySem.F.plainAttrs_list PySem.F.slot_list_pop PySem.F.type_list_pop mt_popAt (pv 2) (pa_cons (pv 5) pa_nil)) pa_nil))))))
      (pss_one (ps_ret (pv 3))))))
theorem cal_law_turned {P : Program} {w : World} {K : PySem.W.Frag} {mg : Str → Option Value} {base : Heap} {C : Cs} (D : Def K mg "_law_turned" s_law_turned) (B : Bl mg) (T : Top K mg C) :
    Cal P w K mg base CX0 1 "_law_turned" ["_law_guests", "_law_cells"] (sp_law_turned K C) := by
  obtain ⟨f, fd, F, hm⟩ := D.ex
  exact ⟨f, fd, ok_law_turned F B T, hm, F.kp, F.binds (ps := ["_law_guests", "_law_cells"]) fun _ _ _ _ _ _ us hl => match us, hl with | [_, _], _ => rfl⟩
abbrev s_law_one_by_one : Stmt := topS 32
theorem sc_law_one_by_one : FnScope ["_law_order", "_law_many", "_law_cells", "_law_base_here", "_law_seats", "_law_stranger", "_law_k", "_law_mixed", "_law_other", "_law_handed"] ["_law_order", "_law_many", "_law_cells", "_law_base_here"] (defScope s_law_one_by_one) := ⟨rfl, rfl, rfl, by decide +kernel, rfl, by decide +kernel, by decide +kernel⟩
theorem ok_law_one_by_one {P : Program} {w : World} {K : PySem.W.Frag} {mg : Str → Option Value} {base : Heap} {C : Cs} {f : Addr} {fd : FuncData} (F : Fun K "_law_one_by_one" "_law_one_by_one" s_law_one_by_one f fd) (B : Bl mg) (T : Top K mg C) (c_law_guest : Cal P w K mg base CX0 1 "_law_guest" ["_law_cell", "_law_base_here"] (sp_law_guest K C)) (c_seat_in : Cal P w K mg base (L2.CX P w) 6 "seat_in" ["seats", "guest"] (sp_seat_in K C)) (c_seat_out : Cal P w K mg base (L2.CX P w) 6 "seat_out" ["seats", "guest"] (sp_seat_out K C)) :
    FnOk P w K mg base CX0 7 f fd ["_law_order", "_law_many", "_law_cells", "_law_base_here"] (sp_law_one_by_one K C) := by
  refine F.ok sc_law_one_by_one (fun vs H Q E h => len_law_one_by_one h) (fun cdv A outer s H vs Q E hr h => ⟨t_law_one_by_one K C E, ?_, pure_law_one_by_one T.f h⟩)
  have hu := hu_of hr
  exact (pss_cons (ps_set (i := 4) sc_law_one_by_one.nd rfl (.inl rfl) (pe_op op_rep (pe_lst (pa_cons pe_non pa_nil)) (pv 1)))
      (pss_cons (ps_set (i := 5) sc_law_one_by_one.nd rfl (.inl rfl) pe_non)
      (pss_cons (ps_for PassesOwn.never rfl (pi_range1 (by rfl) B.range (pa_cons (pe_callB call_len_seq (by rfl) B.len (by decide +kernel) (pa_cons (pv 0) pa_nil)) pa_nil)) (pg_name (i := 6) sc_law_one_by_one.nd rfl (.inl rfl)) (pss_cons (ps_set (i := 7) sc_law_one_by_one.nd rfl (.inl rfl) (pe_op op_mod (pe_op op_mulL (pe_op op_mod (pe_ix ix_list (pv 2) (pv 6) (fun _ _ => rfl)) (pe_pow (m := 10) (n := 12) (N := 1000000000000) rfl rfl (by decide +kernel) (by decide) (by decide))) pe_int) pe_int))
      (pss_cons (ps_set (i := 8) sc_law_one_by_one.nd rfl (.inl rfl) (pe_fn c_law_guest (hr.mono (by decide)) pass0 (pa_cons (pe_op op_fdiv (pv 7) pe_int) (pa_cons (pv 3) pa_nil))))
      (pss_cons (ps_if (PW.pt (pw_and (pt_cmp (pc_isN (pv 5))) (pw_and (pt_cmpR op_eq (pe_op op_mod (pv 7) pe_int) pe_int (nomark _)) (pw_and1 (pt_cmpR op_notIn_seq (pv 8) (pv 0) (by rfl)))))) (pss_cons (ps_set (i := 5) sc_law_one_by_one.nd rfl (.inl rfl) (pv 8))
      (pss_one (ps_set (i := 4) sc_law_one_by_one.nd rfl (.inl rfl) (pe_fn c_seat_in (hr.mono (by decide)) passL (pa_cons (pv 4) (pa_cons (pv 5) pa_nil)))))) pss_nil)
      (pss_cons (ps_set (i := 9) sc_law_one_by_one.nd rfl (.inl rfl) (pe_callTy call_list_of (by rfl) B.list (by decide +kernel) (pa_cons (pv 4) pa_nil)))
      (pss_cons (ps_set (i := 4) sc_law_one_by_one.nd rfl (.inl rfl) (pe_fn c_seat_in (hr.mono (by decide)) passL (pa_cons (pv 9) (pa_cons (pe_ix ix_list (pv 0) (pv 6) (fun _ _ => rfl)) pa_nil))))
      (pss_cons (ps_expr (pe_bm0 PySem.F.plainAttrs_list PySem.F.slot_list_clear PySem.F.type_list_clear mt_clear (pv 9)))
      (pss_one (ps_if (PW.pt (pw_and (pt_cmp (pc_notN (pv 5))) (pw_and1 (pt_cmpR op_eq (pe_op op_mod (pv 7) pe_int) pe_int (nomark _))))) (pss_cons (ps_set (i := 4) sc_law_one_by_one.nd rfl (.inl rfl) (pe_fn c_seat_out (hr.mono (by decide)) passL (pa_cons (pv 4) (pa_cons (pv 5) pa_nil))))
      (pss_one (ps_set (i := 5) sc_law_one_by_one.nd rfl (.inl rfl) pe_non))) pss_nil)))))))))
      (pss_cons (ps_if (pt_cmp (pc_notN (pv 5))) (pss_one (ps_set (i := 4) sc_law_one_by_one.nd rfl (.inl rfl) (pe_fn c_seat_out (hr.mono (by decide)) passL (pa_cons (pv 4) (pa_cons (pv 5) pa_nil))))) pss_nil)
      (pss_one (ps_ret (pv 4)))))))
theorem cal_law_one_by_one {P : Program} {w : World} {K : PySem.W.Frag} {mg : Str → Option Value} {base : Heap} {C : Cs} (D : Def K mg "_law_one_by_one" s_law_one_by_one) (B : Bl mg) (T : Top K mg C) (c_law_guest : Cal P w K mg base CX0 1 "_law_guest" ["_law_cell", "_law_base_here"] (sp_law_guest K C)) (c_seat_in : Cal P w K mg base (L2.CX P w) 6 "seat_in" ["seats", "guest"] (sp_seat_in K C)) (c_seat_out : Cal P w K mg base (L2.CX P w) 6 "seat_out" ["seats", "guest"] (sp_seat_out K C)) :
    Cal P w K mg base CX0 7 "_law_one_by_one" ["_law_order", "_law_many", "_law_cells", "_law_base_here"] (sp_law_one_by_one K C) := by
  obtain ⟨f, fd, F, hm⟩ := D.ex
  exact ⟨f, fd, ok_law_one_by_one F B T c_law_guest c_seat_in c_seat_out, hm, F.kp, F.binds (ps := ["_law_order", "_law_many", "_law_cells", "_law_base_here"]) fun _ _ _ _ _ _ us hl => match us, hl with | [_, _, _, _], _ => rfl⟩
abbrev s_law_odd : Stmt := topS 33
theorem sc_law_odd : FnScope ["_law_cell", "_law_number", "_law_some"] ["_law_cell"] (defScope s_law_odd) := ⟨rfl, rfl, rfl, by decide +kernel, rfl, by decide +kernel, by decide +kernel⟩
theorem ok_law_odd {P : Program} {w : World} {K : PySem.W.Frag} {mg : Str → Option Value} {base : Heap} {C : Cs} {f : Addr} {fd : FuncData} (F : Fun K "_law_odd" "_law_odd" s_law_odd f fd) (B : Bl mg) (T : Top K mg C) :
    FnOk P w K mg base CX0 1 f fd ["_law_cell"] (sp_law_odd K C) := by
  refine F.ok sc_law_odd (fun vs H Q E h => len_law_odd h) (fun cdv A outer s H vs Q E hr h => ⟨t_law_odd K C E, ?_, pure_law_odd T.f h⟩)
  have hu := hu_of hr
  exact (pss_cons (ps_set (i := 1) sc_law_odd.nd rfl (.inl rfl) (pe_op op_mod (pe_op op_fdiv (pv 0) pe_int) (pe_pow (m := 10) (n := 40) (N := 10000000000000000000000000000000000000000) rfl rfl (by decide +kernel) (by decide) (by decide))))
      (pss_cons (ps_set (i := 2) sc_law_odd.nd rfl (.inl rfl) (pe_lst (pa_cons pe_bl (pa_cons pe_bl (pa_cons pe_non (pa_cons pe_str (pa_cons pe_str (pa_cons (pe_lst (pa_cons pe_int pa_nil)) (pa_cons (pe_tup (pa_cons pe_int pa_nil)) (pa_cons pe_dnewK (pa_cons (pe_un un_neg pe_int) (pa_cons (pe_pow (m := 10) (n := 60) (N := 1000000000000000000000000000000000000000000000000000000000000) rfl rfl (by decide +kernel) (by decide) (by decide)) (pa_cons (pe_op op_sub (pe_un un_neg pe_int) (pv 1)) (pa_cons (pe_op op_add (pe_op op_add (pe_pow (m := 10) (n := 60) (N := 1000000000000000000000000000000000000000000000000000000000000) rfl rfl (by decide +kernel) (by decide) (by decide)) pe_int) (pv 1)) (pa_cons (pe_lst pa_nil) pa_nil)))))))))))))))
      (pss_one (ps_ret (pe_ix ix_list (pv 2) (pe_op op_mod (pv 0) pe_int) (fun _ _ => rfl))))))
theorem cal_law_odd {P : Program} {w : World} {K : PySem.W.Frag} {mg : Str → Option Value} {base : Heap} {C : Cs} (D : Def K mg "_law_odd" s_law_odd) (B : Bl mg) (T : Top K mg C) :
    Cal P w K mg base CX0 1 "_law_odd" ["_law_cell"] (sp_law_odd K C) := by
  obtain ⟨f, fd, F, hm⟩ := D.ex
  exact ⟨f, fd, ok_law_odd F B T, hm, F.kp, F.binds (ps := ["_law_cell"]) fun _ _ _ _ _ _ us hl => match us, hl with | [_], _ => rfl⟩
abbrev s_law_refused : Stmt := topS 34
theorem sc_law_refused : FnScope ["_law_guests", "_law_many", "e", "_law_own", "_law_others"] ["_law_guests", "_law_many"] (defScope s_law_refused) := ⟨rfl, rfl, rfl, by decide +kernel, rfl, by decide +kernel, by decide +kernel⟩
theorem ok_law_refused {P : Program} {w : World} {K : PySem.W.Frag} {mg : Str → Option Value} {base : Heap} {C : Cs} {f : Addr} {fd : FuncData} (F : Fun K "_law_refused" "_law_refused" s_law_refused f fd) (B : Bl mg) (T : Top K mg C) (c_seated : Cal P w K mg base (L2.CX P w) 6 "seated" ["guests", "many"] (sp_seated K C)) :
    FnOk P w K mg base CX0 7 f fd ["_law_guests", "_law_many"] (sp_law_refused K C) := by
  refine F.ok sc_law_refused (fun vs H Q E h => len_law_refused h) (fun cdv A outer s H vs Q E hr h => ⟨t_law_refused K C E, ?_, pure_law_refused T.f h⟩)
  have hu := hu_of hr
  exact (pss_cons (ps_try_as (i := 2) (tb := t_law_refused_b1_try K C E) (ts := t_law_refused_b1_exc K C E) rfl rfl sc_law_refused.nd rfl rfl ⟨rfl, by decide, .inl T.gRingError⟩ takes0 (fun W pn xe tk _ => (pss_one (ps_expr (pe_fnS c_seated (hr.mono (by decide)) (fun σ => passAt tk σ) (pa_cons (pv 0) (pa_cons (pv 1) pa_nil)))))) (fun a oe cls d pn hz hf => (pss_cons (ps_set (i := 3) sc_law_refused.nd rfl (.inl rfl) (pe_lst (pa_cons (pe_callB (call_isX T.f hz hf) (by rfl) B.isinstance (by decide +kernel) (pa_cons (pv 2) (pa_cons (pe_glob (v := .ref C.cNoGuest) (by rfl) T.gNoGuest rfl) pa_nil))) (pa_cons (pe_callB (call_isX T.f hz hf) (by rfl) B.isinstance (by decide +kernel) (pa_cons (pv 2) (pa_cons (pe_glob (v := .ref C.cTwice) (by rfl) T.gTwice rfl) pa_nil))) (pa_cons (pe_callB (call_isX T.f hz hf) (by rfl) B.isinstance (by decide +kernel) (pa_cons (pv 2) (pa_cons (pe_glob (v := .ref C.cFull) (by rfl) T.gFull rfl) pa_nil))) pa_nil)))))
      (pss_cons (ps_set (i := 4) sc_law_refused.nd rfl (.inl rfl) (pe_or (pe_callB (call_isX T.f hz hf) (by rfl) B.isinstance (by decide +kernel) (pa_cons (pv 2) (pa_cons (pe_glob (v := .ref C.cAway) (by rfl) T.gAway rfl) pa_nil))) (pe_one (pe_callB (call_isX T.f hz hf) (by rfl) B.isinstance (by decide +kernel) (pa_cons (pv 2) (pa_cons (pe_glob (v := .ref C.cNoSize) (by rfl) T.gNoSize rfl) pa_nil))))))
      (pss_one (ps_ret (pe_op op_cat (pv 3) (pe_lst (pa_cons (pe_and (pe_callB (call_isX T.f hz hf) (by rfl) B.isinstance (by decide +kernel) (pa_cons (pv 2) (pa_cons (pe_bltn (v := .ty "ValueError") (by rfl) B.ValueError (by decide +kernel) rfl) pa_nil))) (pe_one (pe_not (pv 4)))) pa_nil)))))))))
      (pss_one (ps_ret (pe_lst pa_nil))))
theorem cal_law_refused {P : Program} {w : World} {K : PySem.W.Frag} {mg : Str → Option Value} {base : Heap} {C : Cs} (D : Def K mg "_law_refused" s_law_refused) (B : Bl mg) (T : Top K mg C) (c_seated : Cal P w K mg base (L2.CX P w) 6 "seated" ["guests", "many"] (sp_seated K C)) :
    Cal P w K mg base CX0 7 "_law_refused" ["_law_guests", "_law_many"] (sp_law_refused K C) := by
  obtain ⟨f, fd, F, hm⟩ := D.ex
  exact ⟨f, fd, ok_law_refused F B T c_seated, hm, F.kp, F.binds (ps := ["_law_guests", "_law_many"]) fun _ _ _ _ _ _ us hl => match us, hl with | [_, _], _ => rfl⟩
abbrev s_law_spoiled : Stmt := topS 35
theorem sc_law_spoiled : FnScope ["_law_script", "_law_guests", "_law_way", "_law_spoiled_here", "_law_twice", "_law_many", "_law_full", "_law_due"] ["_law_script", "_law_guests"] (defScope s_law_spoiled) := ⟨rfl, rfl, rfl, by decide +kernel, rfl, by decide +kernel, by decide +kernel⟩
theorem ok_law_spoiled {P : Program} {w : World} {K : PySem.W.Frag} {mg : Str → Option Value} {base : Heap} {C : Cs} {f : Addr} {fd : FuncData} (F : Fun K "_law_spoiled" "_law_spoiled" s_law_spoiled f fd) (B : Bl mg) (T : Top K mg C) (c_law_cell_at : Cal P w K mg base CX0 1 "_law_cell_at" ["_law_script", "_law_k"] (sp_law_cell_at K C)) (c_law_odd : Cal P w K mg base CX0 1 "_law_odd" ["_law_cell"] (sp_law_odd K C)) :
    FnOk P w K mg base CX0 2 f fd ["_law_script", "_law_guests"] (sp_law_spoiled K C) := by
  refine F.ok sc_law_spoiled (fun vs H Q E h => len_law_spoiled h) (fun cdv A outer s H vs Q E hr h => ⟨t_law_spoiled K C E, ?_, pure_law_spoiled T.f h⟩)
  have hu := hu_of hr
  exact (pss_cons (ps_set (i := 2) sc_law_spoiled.nd rfl (.inl rfl) (pe_op op_mod (pe_fn c_law_cell_at (hr.mono (by decide)) pass0 (pa_cons (pv 0) (pa_cons pe_int pa_nil))) pe_int))
      (pss_cons (ps_set (i := 3) sc_law_spoiled.nd rfl (.inl rfl) (pe_callTy call_list_of (by rfl) B.list (by decide +kernel) (pa_cons (pv 1) pa_nil)))
      (pss_cons (ps_set (i := 4) sc_law_spoiled.nd rfl (.inl rfl) (pe_and (pe_cmpR op_eq (pe_op op_mod (pe_op op_fdiv (pv 2) pe_int) pe_int) pe_int (nomark _)) (pe_one (pe_cmpR op_gt (pe_callB call_len_seq (by rfl) B.len (by decide +kernel) (pa_cons (pv 1) pa_nil)) pe_int (nomark _)))))
      (pss_cons (ps_if (pt_val (pv 4)) (pss_one (ps_expr (pe_bm PySem.F.plainAttrs_list PySem.F.slot_list_insert PySem.F.type_list_insert mt_insert (pv 3) (pa_cons (pe_op op_mod (pe_fn c_law_cell_at (hr.mono (by decide)) pass0 (pa_cons (pv 0) (pa_cons pe_int pa_nil))) (pe_op op_add (pe_callB call_len_seq (by rfl) B.len (by decide +kernel) (pa_cons (pv 1) pa_nil)) pe_int)) (pa_cons (pe_ix ix_list (pv 1) (pe_op op_mod (pe_fn c_law_cell_at (hr.mono (by decide)) pass0 (pa_cons (pv 0) (pa_cons pe_int pa_nil))) (pe_callB call_len_seq (by rfl) B.len (by decide +kernel) (pa_cons (pv 1) pa_nil))) (fun _ _ => rfl)) pa_nil))))) pss_nil)
      (pss_cons (ps_if (pt_cmpR op_eq (pe_op op_mod (pv 2) pe_int) pe_int (nomark _)) (pss_one (ps_expr (pe_bm PySem.F.plainAttrs_list PySem.F.slot_list_insert PySem.F.type_list_insert mt_insert (pv 3) (pa_cons (pe_op op_mod (pe_op op_fdiv (pe_fn c_law_cell_at (hr.mono (by decide)) pass0 (pa_cons (pv 0) (pa_cons pe_int pa_nil))) pe_int) (pe_op op_add (pe_callB call_len_seq (by rfl) B.len (by decide +kernel) (pa_cons (pv 3) pa_nil)) pe_int)) (pa_cons (pe_fn c_law_odd (hr.mono (by decide)) pass0 (pa_cons (pe_fn c_law_cell_at (hr.mono (by decide)) pass0 (pa_cons (pv 0) (pa_cons pe_int pa_nil))) pa_nil)) pa_nil))))) pss_nil)
      (pss_cons (ps_set (i := 5) sc_law_spoiled.nd rfl (.inl rfl) (pe_callB (call_max2 rfl) (by rfl) B.max (by decide +kernel) (pa_cons pe_int (pa_cons (pe_op op_add (pe_op op_add (pe_callB call_len_seq (by rfl) B.len (by decide +kernel) (pa_cons (pv 3) pa_nil)) pe_int) (pe_op op_mod (pe_op op_fdiv (pe_fn c_law_cell_at (hr.mono (by decide)) pass0 (pa_cons (pv 0) (pa_cons pe_int pa_nil))) pe_int) pe_int)) pa_nil))))
      (pss_cons (ps_set (i := 6) sc_law_spoiled.nd rfl (.inl rfl) (pe_and (pe_cmpR op_eq (pe_op op_fdiv (pv 2) pe_int) pe_int (nomark _)) (pe_one (pe_cmpR op_gt (pe_callB call_len_seq (by rfl) B.len (by decide +kernel) (pa_cons (pv 3) pa_nil)) pe_int (nomark _)))))
      (pss_cons (ps_if (pt_val (pv 6)) (pss_one (ps_set (i := 5) sc_law_spoiled.nd rfl (.inl rfl) (pe_callB (call_max2 rfl) (by rfl) B.max (by decide +kernel) (pa_cons pe_int (pa_cons (pe_op op_sub (pe_callB call_len_seq (by rfl) B.len (by decide +kernel) (pa_cons (pv 3) pa_nil)) (pe_op op_mod (pe_op op_fdiv (pe_fn c_law_cell_at (hr.mono (by decide)) pass0 (pa_cons (pv 0) (pa_cons pe_int pa_nil))) pe_int) pe_int)) pa_nil))))) pss_nil)
      (pss_cons (ps_set (i := 7) sc_law_spoiled.nd rfl (.inl rfl) (pe_lst (pa_cons (pe_cmpR op_eq (pe_op op_mod (pv 2) pe_int) pe_int (nomark _)) (pa_cons (pe_and (pe_cmpR op_eq (pe_op op_mod (pv 2) pe_int) pe_int (nomark _)) (pe_one (pv 4))) (pa_cons (pe_and (pe_cmpR op_eq (pe_op op_mod (pv 2) pe_int) pe_int (nomark _)) (pe_and (pe_not (pv 4)) (pe_one (pv 6)))) pa_nil)))))
      (pss_one (ps_ret (pe_lst (pa_cons (pv 3) (pa_cons (pv 5) (pa_cons (pv 7) pa_nil)))))))))))))))
theorem cal_law_spoiled {P : Program} {w : World} {K : PySem.W.Frag} {mg : Str → Option Value} {base : Heap} {C : Cs} (D : Def K mg "_law_spoiled" s_law_spoiled) (B : Bl mg) (T : Top K mg C) (c_law_cell_at : Cal P w K mg base CX0 1 "_law_cell_at" ["_law_script", "_law_k"] (sp_law_cell_at K C)) (c_law_odd : Cal P w K mg base CX0 1 "_law_odd" ["_law_cell"] (sp_law_odd K C)) :
    Cal P w K mg base CX0 2 "_law_spoiled" ["_law_script", "_law_guests"] (sp_law_spoiled K C) := by
  obtain ⟨f, fd, F, hm⟩ := D.ex
  exact ⟨f, fd, ok_law_spoiled F B T c_law_cell_at c_law_odd, hm, F.kp, F.binds (ps := ["_law_script", "_law_guests"]) fun _ _ _ _ _ _ us hl => match us, hl with | [_, _], _ => rfl⟩
abbrev s_law : Stmt := topS 36
theorem sc_law : FnScope ["_law_script", "_law_base_here", "_law_cells", "_law_guests", "_law_spoiled_here", "_law_many", "_law_due", "_law_kept", "_law_handed", "_law_one", "_law_held", "_law_order", "_law_wide"] ["_law_script"] (defScope s_law) := ⟨rfl, rfl, rfl, by decide +kernel, rfl, by decide +kernel, by decide +kernel⟩
theorem ok_law {P : Program} {w : World} {K : PySem.W.Frag} {mg : Str → Option Value} {base : Heap} {C : Cs} {f : Addr} {fd : FuncData} (F : Fun K "law" "law" s_law f fd) (B : Bl mg) (T : Top K mg C) (c_law_cell_at : Cal P w K mg base CX0 1 "_law_cell_at" ["_law_script", "_law_k"] (sp_law_cell_at K C)) (c_law_base : Cal P w K mg base CX0 1 "_law_base" ["_law_cell"] (sp_law_base K C)) (c_law_drawn : Cal P w K mg base CX0 2 "_law_drawn" ["_law_cells", "_law_base_here"] (sp_law_drawn K C)) (c_law_spoiled : Cal P w K mg base CX0 2 "_law_spoiled" ["_law_script", "_law_guests"] (sp_law_spoiled K C)) (c_law_refused : Cal P w K mg base CX0 7 "_law_refused" ["_law_guests", "_law_many"] (sp_law_refused K C)) (c_seated : Cal P w K mg base (L2.CX P w) 6 "seated" ["guests", "many"] (sp_seated K C)) (c_law_settled : Cal P w K mg base CX0 2 "_law_settled" ["_law_seats", "_law_many", "_law_guests"] (sp_law_settled K C)) (c_law_turned : Cal P w K mg base CX0 1 "_law_turned" ["_law_guests", "_law_cells"] (sp_law_turned K C)) (c_law_same : Cal P w K mg base CX0 2 "_law_same" ["_law_found", "_law_seats"] (sp_law_same K C)) (c_law_one_by_one : Cal P w K mg base CX0 7 "_law_one_by_one" ["_law_order", "_law_many", "_law_cells", "_law_base_here"] (sp_law_one_by_one K C)) :
    FnOk P w K mg base CX0 8 f fd ["_law_script"] (sp_law K C) := by
  refine F.ok sc_law (fun vs H Q E h => len_law h) (fun cdv A outer s H vs Q E hr h => ⟨t_law K C E, ?_, pure_law T.f h⟩)
  have hu := hu_of hr
  exact (pss_cons (ps_set (i := 1) sc_law.nd rfl (.inl rfl) (pe_fn c_law_base (hr.mono (by decide)) pass0 (pa_cons (pe_fn c_law_cell_at (hr.mono (by decide)) pass0 (pa_cons (pv 0) (pa_cons pe_int pa_nil))) pa_nil)))
      (pss_cons (ps_set (i := 2) sc_law.nd rfl (.inl rfl) (pe_slice sl_list (pv 0) (po_some pe_int) (po_some pe_int)))
      (pss_cons (ps_set (i := 3) sc_law.nd rfl (.inl rfl) (pe_fn c_law_drawn (hr.mono (by decide)) pass0 (pa_cons (pv 2) (pa_cons (pv 1) pa_nil))))
      (pss_cons (ps_asg (pe_fn c_law_spoiled (hr.mono (by decide)) pass0 (pa_cons (pv 0) (pa_cons (pv 3) pa_nil))) (pg_lst rfl (pgs_cons (pg_name (i := 4) sc_law.nd rfl (.inl rfl)) (pgs_cons (pg_name (i := 5) sc_law.nd rfl (.inl rfl)) (pgs_cons (pg_name (i := 6) sc_law.nd rfl (.inl rfl)) pgs_nil)))))
      (pss_cons (ps_set (i := 7) sc_law.nd rfl (.inl rfl) (pe_callTy call_list_of (by rfl) B.list (by decide +kernel) (pa_cons (pv 4) pa_nil)))
      (pss_cons (ps_if (PW.pt (pw_and (pt_cmpR op_in_seq pe_bl (pv 6) (by rfl)) (pw_and1 (PW.pt (pw_or (pt_cmpR (op_neD hr.units) (pe_fn c_law_refused (hr.mono (by decide)) pass0 (pa_cons (pv 4) (pa_cons (pv 5) pa_nil))) (pe_op op_cat (pv 6) (pe_lst (pa_cons pe_bl pa_nil))) (nomark _)) (pw_or1 (pt_cmpR (op_neS hr.units) (pv 4) (pv 7) (nomark _)))))))) (pss_one (ps_ret pe_bl)) pss_nil)
      (pss_cons (ps_set (i := 5) sc_law.nd rfl (.inl rfl) (pe_op op_add (pe_op op_add (pe_callB call_len_seq (by rfl) B.len (by decide +kernel) (pa_cons (pv 3) pa_nil)) pe_int) (pe_op op_mod (pe_op op_fdiv (pe_fn c_law_cell_at (hr.mono (by decide)) pass0 (pa_cons (pv 0) (pa_cons pe_int pa_nil))) pe_int) pe_int)))
      (pss_cons (ps_set (i := 8) sc_law.nd rfl (.inl rfl) (pe_callTy call_list_of (by rfl) B.list (by decide +kernel) (pa_cons (pv 3) pa_nil)))
      (pss_cons (ps_set (i := 9) sc_law.nd rfl (.inl rfl) (pe_fn c_seated (hr.mono (by decide)) passL (pa_cons (pv 8) (pa_cons (pv 5) pa_nil))))
      (pss_cons (ps_if (PW.pt (pw_or (pt_not (pt_val (pe_fn c_law_settled (hr.mono (by decide)) pass0 (pa_cons (pv 9) (pa_cons (pv 5) (pa_cons (pv 3) pa_nil)))))) (pw_or1 (pt_cmpR (op_neD hr.units) (pv 8) (pv 3) (nomark _))))) (pss_one (ps_ret pe_bl)) pss_nil)
      (pss_cons (ps_set (i := 10) sc_law.nd rfl (.inl rfl) (pe_callTy call_list_of (by rfl) B.list (by decide +kernel) (pa_cons (pv 9) pa_nil)))
      (pss_cons (ps_expr (pe_bm0 PySem.F.plainAttrs_list PySem.F.slot_list_clear PySem.F.type_list_clear mt_clear (pv 8)))
      (pss_cons (ps_set (i := 11) sc_law.nd rfl (.inl rfl) (pe_fn c_law_turned (hr.mono (by decide)) pass0 (pa_cons (pv 3) (pa_cons (pv 2) pa_nil))))
      (pss_cons (ps_if (PW.pt (pw_or (pt_not (pt_val (pe_fn c_law_same (hr.mono (by decide)) pass0 (pa_cons (pe_fn c_seated (hr.mono (by decide)) passL (pa_cons (pv 11) (pa_cons (pv 5) pa_nil))) (pa_cons (pv 10) pa_nil))))) (pw_or1 (pt_not (pt_val (pe_fn c_law_same (hr.mono (by decide)) pass0 (pa_cons (pe_fn c_law_one_by_one (hr.mono (by decide)) pass0 (pa_cons (pv 11) (pa_cons (pv 5) (pa_cons (pv 2) (pa_cons (pv 1) pa_nil))))) (pa_cons (pv 10) pa_nil)))))))) (pss_one (ps_ret pe_bl)) pss_nil)
      (pss_cons (ps_set (i := 12) sc_law.nd rfl (.inl rfl) (pe_callB (call_max2 rfl) (by rfl) B.max (by decide +kernel) (pa_cons pe_int (pa_cons (pe_op op_add (pe_op op_add (pe_callB call_len_seq (by rfl) B.len (by decide +kernel) (pa_cons (pv 3) pa_nil)) pe_int) (pe_op op_mod (pe_op op_fdiv (pe_fn c_law_cell_at (hr.mono (by decide)) pass0 (pa_cons (pv 0) (pa_cons pe_int pa_nil))) pe_int) (pe_op op_sub pe_int (pe_callB call_len_seq (by rfl) B.len (by decide +kernel) (pa_cons (pv 3) pa_nil))))) pa_nil))))
      (pss_cons (ps_if (pt_not (pt_val (pe_fn c_law_settled (hr.mono (by decide)) pass0 (pa_cons (pe_fn c_seated (hr.mono (by decide)) passL (pa_cons (pv 3) (pa_cons (pv 12) pa_nil))) (pa_cons (pv 12) (pa_cons (pv 3) pa_nil)))))) (pss_one (ps_ret pe_bl)) pss_nil)
      (pss_one (ps_ret (pe_fn c_law_same (hr.mono (by decide)) pass0 (pa_cons (pv 9) (pa_cons (pv 10) pa_nil)))))))))))))))))))))
end RS
namespace RS
open PySem PySem.Spec PyProof.Rows L2
theorem all_mk {l : PySem.W.OpenLaw} {w : World} {K : PySem.W.Frag} {h : Heap} {mg : Str → Option Value} {fa : Addr} (X : K.In h) (G : h.Ns mainGlobals mg) (hfa : mg "law" = some (.ref fa)) (C : Cs) (T : Top K mg C)
    (d_is_guest : Def K mg "is_guest" s_is_guest)
    (d_home : Def K mg "home" s_home)
    (d_carried : Def K mg "carried" s_carried)
    (d_ahead : Def K mg "ahead" s_ahead)
    (d_look_for : Def K mg "look_for" s_look_for)
    (d_place_of : Def K mg "place_of" s_place_of)
    (d_take_seat : Def K mg "take_seat" s_take_seat)
    (d_leave_seat : Def K mg "leave_seat" s_leave_seat)
    (d_seat_in : Def K mg "seat_in" s_seat_in)
    (d_seat_out : Def K mg "seat_out" s_seat_out)
    (d_looked_through : Def K mg "looked_through" s_looked_through)
    (d_seated : Def K mg "seated" s_seated)
    (d_law_cell_at : Def K mg "_law_cell_at" s_law_cell_at)
    (d_law_whole : Def K mg "_law_whole" s_law_whole)
    (d_law_home : Def K mg "_law_home" s_law_home)
    (d_law_base : Def K mg "_law_base" s_law_base)
    (d_law_guest : Def K mg "_law_guest" s_law_guest)
    (d_law_drawn : Def K mg "_law_drawn" s_law_drawn)
    (d_law_settled : Def K mg "_law_settled" s_law_settled)
    (d_law_same : Def K mg "_law_same" s_law_same)
    (d_law_turned : Def K mg "_law_turned" s_law_turned)
    (d_law_one_by_one : Def K mg "_law_one_by_one" s_law_one_by_one)
    (d_law_odd : Def K mg "_law_odd" s_law_odd)
    (d_law_refused : Def K mg "_law_refused" s_law_refused)
    (d_law_spoiled : Def K mg "_law_spoiled" s_law_spoiled)
    (d_law : Def K mg "law" s_law)
    (z_ValueError : PySem.W.nsIn K mainGlobals "ValueError" = some none) (z_bool : PySem.W.nsIn K mainGlobals "bool" = some none) (z_int : PySem.W.nsIn K mainGlobals "int" = some none) (z_isinstance : PySem.W.nsIn K mainGlobals "isinstance" = some none) (z_len : PySem.W.nsIn K mainGlobals "len" = some none) (z_list : PySem.W.nsIn K mainGlobals "list" = some none) (z_max : PySem.W.nsIn K mainGlobals "max" = some none) (z_range : PySem.W.nsIn K mainGlobals "range" = some none) (z_set : PySem.W.nsIn K mainGlobals "set" = some none) (z_sorted : PySem.W.nsIn K mainGlobals "sorted" = some none) (z_zip : PySem.W.nsIn K mainGlobals "zip" = some none) :
    ∃ fd : FuncData, (∀ (s : Shared) (v : Value), BindsTo s fd ⟨[v], []⟩ [("_law_script", v)]) ∧ ∀ base : Heap, K.In base → base.Ns mainGlobals mg → FnOk l.prog w K mg base CX0 8 fa fd ["_law_script"] (sp_law K C) := by
  have B : Bl mg := ⟨PySem.W.mg_none_of X G z_ValueError, PySem.W.mg_none_of X G z_bool, PySem.W.mg_none_of X G z_int, PySem.W.mg_none_of X G z_isinstance, PySem.W.mg_none_of X G z_len, PySem.W.mg_none_of X G z_list, PySem.W.mg_none_of X G z_max, PySem.W.mg_none_of X G z_range, PySem.W.mg_none_of X G z_set, PySem.W.mg_none_of X G z_sorted, PySem.W.mg_none_of X G z_zip⟩
  obtain ⟨f, fd, F, hm⟩ := d_law.ex
  have e := hfa.symm.trans hm
  cases e
  refine ⟨fd, fun s v => ?_, fun base _ _ => ?_⟩
  · obtain ⟨oc, od, kV, doc, pm, an, cdv, ct, osl, rfl, lk, hcd⟩ := F.ex
    exact .of_eq rfl
  · have c_is_guest := cal_is_guest (P := l.prog) (w := w) (base := base) (C := C) d_is_guest B T 
    have c_home := cal_home (P := l.prog) (w := w) (base := base) (C := C) d_home B T 
    have c_carried := cal_carried (P := l.prog) (w := w) (base := base) (C := C) d_carried B T c_home
    have c_ahead := cal_ahead (P := l.prog) (w := w) (base := base) (C := C) d_ahead B T c_carried
    have c_look_for := cal_look_for (P := l.prog) (w := w) (base := base) (C := C) d_look_for B T c_is_guest c_home c_ahead
    have c_place_of := cal_place_of (P := l.prog) (w := w) (base := base) (C := C) d_place_of B T c_look_for
    have c_take_seat := cal_take_seat (P := l.prog) (w := w) (base := base) (C := C) d_take_seat B T c_look_for
    have c_leave_seat := cal_leave_seat (P := l.prog) (w := w) (base := base) (C := C) d_leave_seat B T c_carried
    have c_seat_in := cal_seat_in (P := l.prog) (w := w) (base := base) (C := C) d_seat_in B T c_place_of c_take_seat
    have c_seat_out := cal_seat_out (P := l.prog) (w := w) (base := base) (C := C) d_seat_out B T c_place_of c_leave_seat
    have c_looked_through := cal_looked_through (P := l.prog) (w := w) (base := base) (C := C) d_looked_through B T c_is_guest
    have c_seated := cal_seated (P := l.prog) (w := w) (base := base) (C := C) d_seated B T c_looked_through c_take_seat
    have c_law_cell_at := cal_law_cell_at (P := l.prog) (w := w) (base := base) (C := C) d_law_cell_at B T 
    have c_law_whole := cal_law_whole (P := l.prog) (w := w) (base := base) (C := C) d_law_whole B T 
    have c_law_home := cal_law_home (P := l.prog) (w := w) (base := base) (C := C) d_law_home B T 
    have c_law_base := cal_law_base (P := l.prog) (w := w) (base := base) (C := C) d_law_base B T 
    have c_law_guest := cal_law_guest (P := l.prog) (w := w) (base := base) (C := C) d_law_guest B T 
    have c_law_drawn := cal_law_drawn (P := l.prog) (w := w) (base := base) (C := C) d_law_drawn B T c_law_guest
    have c_law_settled := cal_law_settled (P := l.prog) (w := w) (base := base) (C := C) d_law_settled B T c_law_whole c_law_home
    have c_law_same := cal_law_same (P := l.prog) (w := w) (base := base) (C := C) d_law_same B T c_law_whole
    have c_law_turned := cal_law_turned (P := l.prog) (w := w) (base := base) (C := C) d_law_turned B T 
    have c_law_one_by_one := cal_law_one_by_one (P := l.prog) (w := w) (base := base) (C := C) d_law_one_by_one B T c_law_guest c_seat_in c_seat_out
    have c_law_odd := cal_law_odd (P := l.prog) (w := w) (base := base) (C := C) d_law_odd B T 
    have c_law_refused := cal_law_refused (P := l.prog) (w := w) (base := base) (C := C) d_law_refused B T c_seated
    have c_law_spoiled := cal_law_spoiled (P := l.prog) (w := w) (base := base) (C := C) d_law_spoiled B T c_law_cell_at c_law_odd
    exact ok_law F B T c_law_cell_at c_law_base c_law_drawn c_law_spoiled c_law_refused c_seated c_law_settled c_law_turned c_law_same c_law_one_by_one
theorem fin {l : PySem.W.OpenLaw} {q : Program} {loose : List Str} {XP : (Str → Option Value) → Heap → Prop} {YP : World → Heap → Prop} {d : DefRec} {K : Params → PySem.W.Frag} (hn : l.most = some 63) (hdf : d.params.defaults = [])
    (hY : ∀ (w : World) (h : Heap), YP w h → (K w.params).In h)
    (F : ∀ (w : World) (mg : Str → Option Value) (fa : Addr) (h : Heap), (K w.params).In h → h.Ns mainGlobals mg → mg d.name = some (.ref fa) → ∃ C : Cs,
      ∃ fd : FuncData, (∀ (s : Shared) (u : Value), BindsTo s fd ⟨[u], []⟩ [("_law_script", u)]) ∧ ∀ base : Heap, (K w.params).In base → base.Ns mainGlobals mg → FnOk l.prog w (K w.params) mg base CX0 8 fa fd ["_law_script"] (sp_law (K w.params) C)) :
    PySem.W.WalkO q loose XP YP l.row.toRowW d [] (fun f vs => PySem.call f vs) :=
  L2.walk_of (n := 63) (k := 8) (x := "_law_script") (CX := fun _ => CX0) (sp := fun w => sp_law0 (K w.params)) hn (by decide) hdf ⟨rfl, by decide, by decide⟩ hY
    (fun w mg fa h a b c => by
      obtain ⟨C, fd, h1, h2⟩ := F w mg fa h a b c
      exact ⟨fd, h1, h2⟩)
    (fun _ _ a ns hl _ hS => ⟨a, ns, rfl, hS, hl, fun _ => rfl⟩) fun _ _ _ _ _ z => z
end RS
open PySem PySem.W PyProof.Rows
set_option maxRecDepth 100000 in
set_option maxHeartbeats 0 in
theorem PySem.Challenge.cw_ringseat_k08_whole_any_order_holds : PySem.Challenge.rw_ringseat_k08_whole_any_order.Holds := by
  w_on; o_law; k_head; (case hw => w_witness2)
  k_fill
  refine RS.fin (l := PySem.Challenge.rw_ringseat_k08_whole_any_order) rfl rfl (fun w h Y => PySem.W.kIn_of Y) ?F
  case F =>
    intro w mg fa h KX G hmg
    refine' ⟨_, RS.all_mk KX G hmg _ (RS.top_mk (aH := 0) KX G ?nR ?n1 ?n2 ?n3 ?n4 ?n5 ⟨?F1q, ?F1k, ?F1b, ?F1t, ?F1g, ?F1n, ?F1d, ?F1c, ?F1m, ?F1v, ?F1r, ?F1s⟩ ⟨?F2q, ?F2k, ?F2b, ?F2t, ?F2g, ?F2n, ?F2d, ?F2c, ?F2m, ?F2v, ?F2r, ?F2s⟩ ⟨?F3q, ?F3k, ?F3b, ?F3t, ?F3g, ?F3n, ?F3d, ?F3c, ?F3m, ?F3v, ?F3r, ?F3s⟩ ⟨?F4q, ?F4k, ?F4b, ?F4t, ?F4g, ?F4n, ?F4d, ?F4c, ?F4m, ?F4v, ?F4r, ?F4s⟩ ⟨?F5q, ?F5k, ?F5b, ?F5t, ?F5g, ?F5n, ?F5d, ?F5c, ?F5m, ?F5v, ?F5r, ?F5s⟩ ?Rb ?Rd ?Rt ?hn ?ht ?s12 ?s13 ?s14 ?s15 ?s21 ?s23 ?s24 ?s25 ?s31 ?s32 ?s34 ?s35 ?s41 ?s42 ?s43 ?s45 ?s51 ?s52 ?s53 ?s54) (RS.def_mk KX G ?a_is_guest ?l_is_guest ?c_is_guest ?k_is_guest) (RS.def_mk KX G ?a_home ?l_home ?c_home ?k_home) (RS.def_mk KX G ?a_carried ?l_carried ?c_carried ?k_carried) (RS.def_mk KX G ?a_ahead ?l_ahead ?c_ahead ?k_ahead) (RS.def_mk KX G ?a_look_for ?l_look_for ?c_look_for ?k_look_for) (RS.def_mk KX G ?a_place_of ?l_place_of ?c_place_of ?k_place_of) (RS.def_mk KX G ?a_take_seat ?l_take_seat ?c_take_seat ?k_take_seat) (RS.def_mk KX G ?a_leave_seat ?l_leave_seat ?c_leave_seat ?k_leave_seat) (RS.def_mk KX G ?a_seat_in ?l_seat_in ?c_seat_in ?k_seat_in) (RS.def_mk KX G ?a_seat_out ?l_seat_out ?c_seat_out ?k_seat_out) (RS.def_mk KX G ?a_looked_through ?l_looked_through ?c_looked_through ?k_looked_through) (RS.def_mk KX G ?a_seated ?l_seated ?c_seated ?k_seated) (RS.def_mk KX G ?a_law_cell_at ?l_law_cell_at ?c_law_cell_at ?k_law_cell_at) (RS.def_mk KX G ?a_law_whole ?l_law_whole ?c_law_whole ?k_law_whole) (RS.def_mk KX G ?a_law_home ?l_law_home ?c_law_home ?k_law_home) (RS.def_mk KX G ?a_law_base ?l_law_base ?c_law_base ?k_law_base) (RS.def_mk KX G ?a_law_guest ?l_law_guest ?c_law_guest ?k_law_guest) (RS.def_mk KX G ?a_law_drawn ?l_law_drawn ?c_law_drawn ?k_law_drawn) (RS.def_mk KX G ?a_law_settled ?l_law_settled ?c_law_settled ?k_law_settled) (RS.def_mk KX G ?a_law_same ?l_law_same ?c_law_same ?k_law_same) (RS.def_mk KX G ?a_law_turned ?l_law_turned ?c_law_turned ?k_law_turned) (RS.def_mk KX G ?a_law_one_by_one ?l_law_one_by_one ?c_law_one_by_one ?k_law_one_by_one) (RS.def_mk KX G ?a_law_odd ?l_law_odd ?c_law_odd ?k_law_odd) (RS.def_mk KX G ?a_law_refused ?l_law_refused ?c_law_refused ?k_law_refused) (RS.def_mk KX G ?a_law_spoiled ?l_law_spoiled ?c_law_spoiled ?k_law_spoiled) (RS.def_mk KX G ?a_law ?l_law ?c_law ?k_law) ?z_ValueError ?z_bool ?z_int ?z_isinstance ?z_len ?z_list ?z_max ?z_range ?z_set ?z_sorted ?z_zip⟩
    (case nR => k_is); (case n1 => k_is); (case n2 => k_is); (case n3 => k_is); (case n4 => k_is); (case n5 => k_is); (case Rb => k_is); (case Rd => k_is); (case Rt => k_is); (case hn => k_is); (case ht => k_is)
    (case F1q => k_exc); (case F1k => k_is); (case F1b => k_is); (case F1t => k_is); (case F1g => k_is); (case F1n => k_is); (case F1d => k_is); (case F1c => k_is); (case F1m => k_is); (case F1v => k_is); (case F1r => k_is); (case F1s => k_is)
    (case F2q => k_exc); (case F2k => k_is); (case F2b => k_is); (case F2t => k_is); (case F2g => k_is); (case F2n => k_is); (case F2d => k_is); (case F2c => k_is); (case F2m => k_is); (case F2v => k_is); (case F2r => k_is); (case F2s => k_is)
    (case F3q => k_exc); (case F3k => k_is); (case F3b => k_is); (case F3t => k_is); (case F3g => k_is); (case F3n => k_is); (case F3d => k_is); (case F3c => k_is); (case F3m => k_is); (case F3v => k_is); (case F3r => k_is); (case F3s => k_is)
    (case F4q => k_exc); (case F4k => k_is); (case F4b => k_is); (case F4t => k_is); (case F4g => k_is); (case F4n => k_is); (case F4d => k_is); (case F4c => k_is); (case F4m => k_is); (case F4v => k_is); (case F4r => k_is); (case F4s => k_is)
    (case F5q => k_exc); (case F5k => k_is); (case F5b => k_is); (case F5t => k_is); (case F5g => k_is); (case F5n => k_is); (case F5d => k_is); (case F5c => k_is); (case F5m => k_is); (case F5v => k_is); (case F5r => k_is); (case F5s => k_is)
    (case s12 => k_is); (case s13 => k_is); (case s14 => k_is); (case s15 => k_is); (case s21 => k_is); (case s23 => k_is); (case s24 => k_is); (case s25 => k_is); (case s31 => k_is); (case s32 => k_is); (case s34 => k_is); (case s35 => k_is); (case s41 => k_is); (case s42 => k_is); (case s43 => k_is); (case s45 => k_is); (case s51 => k_is); (case s52 => k_is); (case s53 => k_is); (case s54 => k_is)
    (case a_is_guest => k_is); (case l_is_guest => k_is); (case c_is_guest => k_is); (case k_is_guest => k_is)
    (case a_home => k_is); (case l_home => k_is); (case c_home => k_is); (case k_home => k_is)
    (case a_carried => k_is); (case l_carried => k_is); (case c_carried => k_is); (case k_carried => k_is)
    (case a_ahead => k_is); (case l_ahead => k_is); (case c_ahead => k_is); (case k_ahead => k_is)
    (case a_look_for => k_is); (case l_look_for => k_is); (case c_look_for => k_is); (case k_look_for => k_is)
    (case a_place_of => k_is); (case l_place_of => k_is); (case c_place_of => k_is); (case k_place_of => k_is)
    (case a_take_seat => k_is); (case l_take_seat => k_is); (case c_take_seat => k_is); (case k_take_seat => k_is)
    (case a_leave_seat => k_is); (case l_leave_seat => k_is); (case c_leave_seat => k_is); (case k_leave_seat => k_is)
    (case a_seat_in => k_is); (case l_seat_in => k_is); (case c_seat_in => k_is); (case k_seat_in => k_is)
    (case a_seat_out => k_is); (case l_seat_out => k_is); (case c_seat_out => k_is); (case k_seat_out => k_is)
    (case a_looked_through => k_is); (case l_looked_through => k_is); (case c_looked_through => k_is); (case k_looked_through => k_is)
    (case a_seated => k_is); (case l_seated => k_is); (case c_seated => k_is); (case k_seated => k_is)
    (case a_law_cell_at => k_is); (case l_law_cell_at => k_is); (case c_law_cell_at => k_is); (case k_law_cell_at => k_is)
    (case a_law_whole => k_is); (case l_law_whole => k_is); (case c_law_whole => k_is); (case k_law_whole => k_is)
    (case a_law_home => k_is); (case l_law_home => k_is); (case c_law_home => k_is); (case k_law_home => k_is)
    (case a_law_base => k_is); (case l_law_base => k_is); (case c_law_base => k_is); (case k_law_base => k_is)
    (case a_law_guest => k_is); (case l_law_guest => k_is); (case c_law_guest => k_is); (case k_law_guest => k_is)
    (case a_law_drawn => k_is); (case l_law_drawn => k_is); (case c_law_drawn => k_is); (case k_law_drawn => k_is)
    (case a_law_settled => k_is); (case l_law_settled => k_is); (case c_law_settled => k_is); (case k_law_settled => k_is)
    (case a_law_same => k_is); (case l_law_same => k_is); (case c_law_same => k_is); (case k_law_same => k_is)
    (case a_law_turned => k_is); (case l_law_turned => k_is); (case c_law_turned => k_is); (case k_law_turned => k_is)
    (case a_law_one_by_one => k_is); (case l_law_one_by_one => k_is); (case c_law_one_by_one => k_is); (case k_law_one_by_one => k_is)
    (case a_law_odd => k_is); (case l_law_odd => k_is); (case c_law_odd => k_is); (case k_law_odd => k_is)
    (case a_law_refused => k_is); (case l_law_refused => k_is); (case c_law_refused => k_is); (case k_law_refused => k_is)
    (case a_law_spoiled => k_is); (case l_law_spoiled => k_is); (case c_law_spoiled => k_is); (case k_law_spoiled => k_is)
    (case a_law => k_is); (case l_law => k_is); (case c_law => k_is); (case k_law => k_is)
    (case z_ValueError => k_is); (case z_bool => k_is); (case z_int => k_is); (case z_isinstance => k_is); (case z_len => k_is); (case z_list => k_is); (case z_max => k_is); (case z_range => k_is); (case z_set => k_is); (case z_sorted => k_is); (case z_zip => k_is)
