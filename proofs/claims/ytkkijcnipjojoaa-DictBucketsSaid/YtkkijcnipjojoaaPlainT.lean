/- A table of groups as plain functions, and its laws: no program in sight. -/
import Derived.Test.YtkkijcnipjojoaaPlainS
import Derived.Test.YtkkijcnipjojoaaPlainB
namespace Go.Proofs.Ytkkijcnipjojoaa
open Go.RowKit

theorem hof_bd (seed : Int) (l : List UInt8) : 0 ≤ hof seed l ∧ hof seed l < 18446744073709551616 := by
  unfold hof
  show 0 ≤ IntKind.u64.wrap _ ∧ IntKind.u64.wrap _ < _
  rw [IntKind.wrap_u64]
  omega
/-- A key's hash. -/
def hk (seed : Int) (k : ByteArray) : Int := hof seed k.data.toList
theorem hk_bd (seed : Int) (k : ByteArray) : 0 ≤ hk seed k ∧ hk seed k < 18446744073709551616 := hof_bd _ _
theorem seven_bd (seed : Int) (k : ByteArray) : 0 ≤ sevenI (hk seed k) ∧ sevenI (hk seed k) < 128 := by
  have := hk_bd seed k
  unfold sevenI
  omega

/-- The groups: words, keys, values. -/
structure Grps where
  G : Nat
  w : Nat → Int
  k : Nat → Nat → ByteArray
  v : Nat → Nat → Int

/-- A hash's group, at a place of the way. -/
def pg (h : Int) (G j : Nat) : Nat := ((h / 4294967296).toNat + j) % G
theorem pg_lt (h : Int) (G j : Nat) (hG : 0 < G) : pg h G j < G := Nat.mod_lt _ hG
theorem pg_onto (h : Int) (G g : Nat) (hg : g < G) : ∃ j, j < G ∧ pg h G j = g := by
  unfold pg
  generalize (h / 4294967296).toNat = a
  have hG : 0 < G := by omega
  have h1 : a % G < G := Nat.mod_lt _ hG
  have h2 : a = G * (a / G) + a % G := (Nat.div_add_mod a G).symm
  by_cases c : a % G ≤ g
  · refine ⟨g - a % G, by omega, ?_⟩
    have : a + (g - a % G) = g + G * (a / G) := by omega
    rw [this, Nat.add_mul_mod_self_left, Nat.mod_eq_of_lt hg]
  · refine ⟨G + g - a % G, by omega, ?_⟩
    have : a + (G + g - a % G) = g + G * (a / G + 1) := by rw [Nat.mul_add]; omega
    rw [this, Nat.add_mul_mod_self_left, Nat.mod_eq_of_lt hg]
theorem pg_inj (h : Int) (G i j : Nat) (hi : i < G) (hj : j < G) (e : pg h G i = pg h G j) : i = j := by
  unfold pg at e
  generalize (h / 4294967296).toNat = a at e
  have h1 : (a % G + i) % G = (a % G + j) % G := by rw [Nat.mod_add_mod, Nat.mod_add_mod]; exact e
  have h2 : a % G < G := Nat.mod_lt _ (by omega)
  generalize a % G = b at *
  have key : ∀ x, x < G → (b + x) % G = if b + x < G then b + x else b + x - G := by
    intro x hx
    split
    · exact Nat.mod_eq_of_lt (by assumption)
    · rw [Nat.mod_eq_sub_mod (by omega), Nat.mod_eq_of_lt (by omega)]
  rw [key i hi, key j hj] at h1
  split at h1 <;> split at h1 <;> omega

/-- How many slots have a byte of a kind. -/
def cnt (p : Int → Bool) (w : Nat → Int) : Nat → Nat
  | 0 => 0
  | n + 1 => cnt p w n + (slotsI p (w n) 8).length
theorem cnt_le (p : Int → Bool) (w : Nat → Int) (n : Nat) : cnt p w n ≤ 8 * n := by
  induction n with
  | zero => simp [cnt]
  | succ n ih => have := slots_len p (w n) 8; simp only [cnt]; omega
theorem cnt_congr (p : Int → Bool) (w w' : Nat → Int) (n : Nat) (h : ∀ g, g < n → w g = w' g) : cnt p w n = cnt p w' n := by
  induction n with
  | zero => rfl
  | succ n ih => simp only [cnt]; rw [ih (fun g hg => h g (by omega)), h n (by omega)]
def updW (w : Nat → Int) (g : Nat) (x : Int) : Nat → Int := fun j => if j = g then x else w j
theorem cnt_upd (p : Int → Bool) (w : Nat → Int) (g : Nat) (x : Int) (n : Nat) (hg : g < n) : cnt p (updW w g x) n + (slotsI p (w g) 8).length = cnt p w n + (slotsI p x 8).length := by
  induction n with
  | zero => omega
  | succ n ih =>
    simp only [cnt]
    by_cases c : g = n
    · subst c
      rw [cnt_congr p (updW w g x) w g (fun j hj => by simp [updW]; omega)]
      simp [updW]; omega
    · have := ih (by omega)
      have e : updW w g x n = w n := by simp [updW]; omega
      rw [e]; omega

theorem slots_count (p : Int → Bool) (x : Int) (n : Nat) : (slotsI p x n).length = ((List.range n).filter fun i => p (bytI x i)).length := by simp [slotsI]
/-- A word with one byte put: how many of a kind. -/
theorem slots_put (p : Int → Bool) (x : Int) (i : Nat) (c : Int) (hi : i < 8) (c0 : 0 ≤ c) (c1 : c < 256) :
    (slotsI p (putI x i c) 8).length + (if p (bytI x i) then 1 else 0) = (slotsI p x 8).length + (if p c then 1 else 0) := by
  have aux : ∀ n, n ≤ 8 → (slotsI p (putI x i c) n).length + (if i < n ∧ p (bytI x i) = true then 1 else 0) = (slotsI p x n).length + (if i < n ∧ p c = true then 1 else 0) := by
    intro n
    induction n with
    | zero => intro _; simp [slots_zero]
    | succ n ih =>
      intro hn
      have ih := ih (by omega)
      have hb : bytI (putI x i c) n = if n = i then c else bytI x n := by
        rw [put_byt x i c n (by omega) (by omega) (by omega) c0 c1]
        by_cases e : n = i
        · rw [if_pos (by omega), if_pos e]
        · rw [if_neg (by omega), if_neg e]
      have len : ∀ y, (slotsI p y (n + 1)).length = (slotsI p y n).length + if p (bytI y n) = true then 1 else 0 := by
        intro y
        by_cases q : p (bytI y n) = true
        · rw [slots_yes _ _ _ q, if_pos q]; simp
        · rw [slots_no _ _ _ (by simpa using q), if_neg q]; rfl
      rw [len, len, hb]
      by_cases c2 : n = i
      · subst c2
        simp only [if_true, Nat.lt_irrefl, false_and, if_false, Nat.lt_succ_self, true_and] at ih ⊢
        omega
      · have e : (i < n + 1) ↔ i < n := by omega
        simp only [if_neg c2, e]
        omega
  have := aux 8 (by omega)
  simpa [hi] using this
theorem slots_pos (p : Int → Bool) (x : Int) : 0 < (slotsI p x 8).length ↔ ∃ i, i < 8 ∧ p (bytI x i) = true := by
  constructor
  · intro h
    obtain ⟨a, ha⟩ := List.exists_mem_of_length_pos h
    rw [slots_mem] at ha
    exact ⟨a.toNat, by omega, ha.2.2⟩
  · rintro ⟨i, hi, hp⟩
    exact List.length_pos_of_mem (a := (i : Int)) ((slots_mem p x 8 i).2 ⟨by omega, by omega, by simpa using hp⟩)

def isFull (b : Int) : Bool := decide (b < 128)
theorem slots_full_free (x : Int) : (slotsI isFull x 8).length + (slotsI isFree x 8).length = 8 := by
  have aux : ∀ n, (slotsI isFull x n).length + (slotsI isFree x n).length = n := by
    intro n
    induction n with
    | zero => simp [slots_zero]
    | succ n ih =>
      by_cases q : bytI x n < 128
      · rw [slots_yes isFull _ _ (by simp [isFull, q]), slots_no isFree _ _ (by simp [isFree, q])]; simp; omega
      · rw [slots_no isFull _ _ (by simp [isFull]; omega), slots_yes isFree _ _ (by simp [isFree]; omega)]; simp; omega
  exact aux 8

/-- What holds of a table's groups: which keys have what. -/
structure Good (seed : Int) (S : Grps) (m : ByteArray → Option Int) : Prop where
  pos : 0 < S.G
  wb : ∀ g, g < S.G → 0 ≤ S.w g ∧ S.w g < 18446744073709551616
  by8 : ∀ g i, g < S.G → i < 8 → bytI (S.w g) i < 128 ∨ bytI (S.w g) i = 128 ∨ bytI (S.w g) i = 254
  sev : ∀ g i, g < S.G → i < 8 → bytI (S.w g) i < 128 → bytI (S.w g) i = sevenI (hk seed (S.k g i))
  way : ∀ g i d, g < S.G → i < 8 → bytI (S.w g) i < 128 → d < S.G → pg (hk seed (S.k g i)) S.G d = g → ∀ j, j < d → ∀ q, q < 8 → bytI (S.w (pg (hk seed (S.k g i)) S.G j)) q ≠ 128
  inj : ∀ g i g' i', g < S.G → i < 8 → bytI (S.w g) i < 128 → g' < S.G → i' < 8 → bytI (S.w g') i' < 128 → S.k g i = S.k g' i' → g = g' ∧ i = i'
  val : ∀ g i, g < S.G → i < 8 → bytI (S.w g) i < 128 → m (S.k g i) = some (S.v g i)
  dom : ∀ k x, m k = some x → ∃ g i, g < S.G ∧ i < 8 ∧ bytI (S.w g) i < 128 ∧ S.k g i = k

def emptyG (G : Nat) : Grps := ⟨G, fun _ => newI, fun _ _ => ByteArray.empty, fun _ _ => 0⟩
theorem new_byt : ∀ i, i < 8 → bytI newI i = 128 := by decide
theorem Good.empty (seed : Int) (G : Nat) (hG : 0 < G) : Good seed (emptyG G) fun _ => none := by
  refine ⟨hG, fun g _ => newI_bd, fun g i _ hi => .inr (.inl (new_byt i hi)), ?_, ?_, ?_, ?_, ?_⟩
  · intro g i _ hi h; have := new_byt i hi; simp only [emptyG] at h; omega
  · intro g i d _ hi h; have := new_byt i hi; simp only [emptyG] at h; omega
  · intro g i g' i' _ hi h; have := new_byt i hi; simp only [emptyG] at h; omega
  · intro g i _ hi h; have := new_byt i hi; simp only [emptyG] at h; omega
  · intro k x h; cases h
theorem cnt_new (p : Int → Bool) (h : p 128 = false) (n : Nat) : cnt p (fun _ => newI) n = 0 := by
  induction n with
  | zero => rfl
  | succ n ih =>
    simp only [cnt]; rw [ih]
    have : ¬ 0 < (slotsI p newI 8).length := by
      rw [slots_pos]; rintro ⟨i, hi, hp⟩; rw [new_byt i hi, h] at hp; cases hp
    omega

/-- A slot with another word byte, key and value. -/
def putG (S : Grps) (g i : Nat) (c : Int) (k : ByteArray) (v : Int) : Grps :=
  ⟨S.G, updW S.w g (putI (S.w g) i c), fun a b => if a = g ∧ b = i then k else S.k a b, fun a b => if a = g ∧ b = i then v else S.v a b⟩
theorem putG_byt (S : Grps) (g i : Nat) (c : Int) (k : ByteArray) (v : Int) (a b : Nat) (hi : i < 8) (hb : b < 8) (c0 : 0 ≤ c) (c1 : c < 256) :
    bytI ((putG S g i c k v).w a) b = if a = g ∧ b = i then c else bytI (S.w a) b := by
  simp only [putG, updW]
  by_cases h : a = g
  · subst h
    rw [if_pos rfl, put_byt _ _ _ _ hb (by omega) (by omega) c0 c1]
    by_cases e : b = i
    · rw [if_pos (by omega), if_pos ⟨rfl, e⟩]
    · rw [if_neg (by omega), if_neg (fun h => e h.2)]
  · rw [if_neg h, if_neg (fun e => h e.1)]
theorem putG_k (S : Grps) (g i : Nat) (c : Int) (k : ByteArray) (v : Int) (a b : Nat) : (putG S g i c k v).k a b = if a = g ∧ b = i then k else S.k a b := rfl
theorem putG_v (S : Grps) (g i : Nat) (c : Int) (k : ByteArray) (v : Int) (a b : Nat) : (putG S g i c k v).v a b = if a = g ∧ b = i then v else S.v a b := rfl
theorem putG_G (S : Grps) (g i : Nat) (c : Int) (k : ByteArray) (v : Int) : (putG S g i c k v).G = S.G := rfl
theorem putG_cnt (p : Int → Bool) (S : Grps) (g i : Nat) (c : Int) (k : ByteArray) (v : Int) (hg : g < S.G) (hi : i < 8) (c0 : 0 ≤ c) (c1 : c < 256) :
    cnt p (putG S g i c k v).w S.G + (if p (bytI (S.w g) i) then 1 else 0) = cnt p S.w S.G + (if p c then 1 else 0) := by
  have h1 := cnt_upd p S.w g (putI (S.w g) i c) S.G hg
  have h2 := slots_put p (S.w g) i c hi c0 c1
  show cnt p (updW S.w g (putI (S.w g) i c)) S.G + _ = _
  omega

def updM (m : ByteArray → Option Int) (k : ByteArray) (o : Option Int) : ByteArray → Option Int := fun x => if x = k then o else m x

/-- A key goes into a slot that is free; the groups ahead of it on its way are full. -/
theorem Good.insert {seed : Int} {S : Grps} {m : ByteArray → Option Int} (h : Good seed S m) (key : ByteArray) (x : Int) (hm : m key = none) (d i : Nat) (hd : d < S.G) (hi : i < 8)
    (hfree : 128 ≤ bytI (S.w (pg (hk seed key) S.G d)) i) (hway : ∀ j, j < d → ∀ q, q < 8 → bytI (S.w (pg (hk seed key) S.G j)) q < 128) :
    Good seed (putG S (pg (hk seed key) S.G d) i (sevenI (hk seed key)) key x) (updM m key (some x)) := by
  obtain ⟨s0, s1⟩ := seven_bd seed key
  have hg := pg_lt (hk seed key) S.G d h.pos
  generalize hgd : pg (hk seed key) S.G d = g at *
  have B := fun a b hb => putG_byt S g i (sevenI (hk seed key)) key x a b hi hb s0 (by omega)
  have NK : ∀ a b, a < S.G → b < 8 → bytI (S.w a) b < 128 → S.k a b ≠ key := by
    intro a b ha hb hf e
    have := h.val a b ha hb hf
    rw [e, hm] at this; cases this
  refine ⟨h.pos, ?_, ?_, ?_, ?_, ?_, ?_, ?_⟩
  · intro a ha
    simp only [putG, updW]
    split
    · exact put_bd _ _ _ (h.wb g hg).1 (h.wb g hg).2 s0 (by omega)
    · exact h.wb a ha
  · intro a b ha hb
    rw [B a b hb]
    split
    · exact .inl s1
    · exact h.by8 a b ha hb
  · intro a b ha hb hf
    rw [B a b hb] at hf ⊢
    rw [putG_k]
    split
    · rfl
    · rename_i c; rw [if_neg c] at hf; exact h.sev a b ha hb hf
  · intro a b e ha hb hf he hpe j hj q hq
    rw [B a b hb] at hf
    rw [putG_G, putG_k] at hpe ⊢
    rw [B _ q hq]
    by_cases c : a = g ∧ b = i
    · rw [if_pos c] at hpe ⊢
      have : e = d := pg_inj (hk seed key) S.G e d he hd (by rw [hpe, hgd, c.1])
      subst this
      split
      · omega
      · have := hway j hj q hq; omega
    · rw [if_neg c] at hpe hf ⊢
      split
      · omega
      · exact h.way a b e ha hb hf he hpe j hj q hq
  · intro a b a' b' ha hb hf ha' hb' hf' ek
    rw [B a b hb] at hf
    rw [B a' b' hb'] at hf'
    rw [putG_k, putG_k] at ek
    by_cases c : a = g ∧ b = i
    · by_cases c' : a' = g ∧ b' = i
      · exact ⟨c.1.trans c'.1.symm, c.2.trans c'.2.symm⟩
      · rw [if_pos c, if_neg c'] at ek
        rw [if_neg c'] at hf'
        exact absurd ek.symm (NK a' b' ha' hb' hf')
    · by_cases c' : a' = g ∧ b' = i
      · rw [if_neg c, if_pos c'] at ek
        rw [if_neg c] at hf
        exact absurd ek (NK a b ha hb hf)
      · rw [if_neg c, if_neg c'] at ek
        rw [if_neg c] at hf
        rw [if_neg c'] at hf'
        exact h.inj a b a' b' ha hb hf ha' hb' hf' ek
  · intro a b ha hb hf
    rw [B a b hb] at hf
    rw [putG_k, putG_v]
    unfold updM
    by_cases c : a = g ∧ b = i
    · rw [if_pos c, if_pos c, if_pos rfl]
    · rw [if_neg c, if_neg c]
      rw [if_neg c] at hf
      rw [if_neg (NK a b ha hb hf)]
      exact h.val a b ha hb hf
  · intro k y hk
    unfold updM at hk
    by_cases c : k = key
    · subst c
      exact ⟨g, i, hg, hi, by rw [B g i hi, if_pos ⟨rfl, rfl⟩]; exact s1, by rw [putG_k, if_pos ⟨rfl, rfl⟩]⟩
    · rw [if_neg c] at hk
      obtain ⟨a, b, ha, hb, hf, ek⟩ := h.dom k y hk
      have hne : ¬ (a = g ∧ b = i) := by rintro ⟨rfl, rfl⟩; omega
      exact ⟨a, b, ha, hb, by rw [B a b hb, if_neg hne]; exact hf, by rw [putG_k, if_neg hne]; exact ek⟩

/-- A key that is there has another value. -/
def valG (S : Grps) (g i : Nat) (x : Int) : Grps := ⟨S.G, S.w, S.k, fun a b => if a = g ∧ b = i then x else S.v a b⟩
theorem Good.value {seed : Int} {S : Grps} {m : ByteArray → Option Int} (h : Good seed S m) (g i : Nat) (hg : g < S.G) (hi : i < 8) (hf : bytI (S.w g) i < 128) (x : Int) :
    Good seed (valG S g i x) (updM m (S.k g i) (some x)) := by
  refine ⟨h.pos, h.wb, h.by8, h.sev, h.way, h.inj, ?_, ?_⟩
  · intro a b ha hb hf'
    show (if S.k a b = S.k g i then some x else m (S.k a b)) = some (if a = g ∧ b = i then x else S.v a b)
    by_cases c : a = g ∧ b = i
    · rw [if_pos c]; obtain ⟨rfl, rfl⟩ := c; rw [if_pos rfl]
    · rw [if_neg c, if_neg (fun e => c (h.inj a b g i ha hb hf' hg hi hf e))]
      exact h.val a b ha hb hf'
  · intro k y hk
    unfold updM at hk
    by_cases c : k = S.k g i
    · exact ⟨g, i, hg, hi, hf, c.symm⟩
    · rw [if_neg c] at hk; exact h.dom k y hk

/-- A key is taken away: its slot is empty, if its group has an empty one; else marked. -/
theorem Good.delete {seed : Int} {S : Grps} {m : ByteArray → Option Int} (h : Good seed S m) (g i : Nat) (hg : g < S.G) (hi : i < 8) (hf : bytI (S.w g) i < 128) (c : Int)
    (hc : c = 128 ∧ (∃ q, q < 8 ∧ bytI (S.w g) q = 128) ∨ c = 254) :
    Good seed (putG S g i c ByteArray.empty 0) (updM m (S.k g i) none) := by
  have c01 : 0 ≤ c ∧ c < 256 ∧ 128 ≤ c := by rcases hc with ⟨rfl, _⟩ | rfl <;> omega
  obtain ⟨c0, c1, c2⟩ := c01
  have B := fun a b hb => putG_byt S g i c ByteArray.empty 0 a b hi hb c0 c1
  have F : ∀ a b, b < 8 → bytI ((putG S g i c ByteArray.empty 0).w a) b < 128 → ¬ (a = g ∧ b = i) ∧ bytI (S.w a) b < 128 := by
    intro a b hb hfb
    rw [B a b hb] at hfb
    by_cases e : a = g ∧ b = i
    · rw [if_pos e] at hfb; omega
    · rw [if_neg e] at hfb; exact ⟨e, hfb⟩
  refine ⟨h.pos, ?_, ?_, ?_, ?_, ?_, ?_, ?_⟩
  · intro a ha
    simp only [putG, updW]
    split
    · exact put_bd _ _ _ (h.wb g hg).1 (h.wb g hg).2 c0 c1
    · exact h.wb a ha
  · intro a b ha hb
    rw [B a b hb]
    split
    · rcases hc with ⟨rfl, _⟩ | rfl <;> simp
    · exact h.by8 a b ha hb
  · intro a b ha hb hfb
    obtain ⟨e, hf'⟩ := F a b hb hfb
    rw [B a b hb, if_neg e, putG_k, if_neg e]
    exact h.sev a b ha hb hf'
  · intro a b d ha hb hfb hd hpe j hj q hq
    obtain ⟨e, hf'⟩ := F a b hb hfb
    rw [putG_G, putG_k, if_neg e] at hpe ⊢
    rw [B _ q hq]
    split
    · rename_i e2
      rcases hc with ⟨rfl, q', hq', hE⟩ | rfl
      · exfalso
        have := h.way a b d ha hb hf' hd hpe j hj q' hq'
        rw [e2.1] at this
        exact this hE
      · omega
    · exact h.way a b d ha hb hf' hd hpe j hj q hq
  · intro a b a' b' ha hb hfb ha' hb' hfb' ek
    obtain ⟨e, hf'⟩ := F a b hb hfb
    obtain ⟨e', hf''⟩ := F a' b' hb' hfb'
    rw [putG_k, putG_k, if_neg e, if_neg e'] at ek
    exact h.inj a b a' b' ha hb hf' ha' hb' hf'' ek
  · intro a b ha hb hfb
    obtain ⟨e, hf'⟩ := F a b hb hfb
    rw [putG_k, putG_v, if_neg e, if_neg e]
    unfold updM
    rw [if_neg (fun e2 => e (h.inj a b g i ha hb hf' hg hi hf e2))]
    exact h.val a b ha hb hf'
  · intro k y hk
    unfold updM at hk
    by_cases e : k = S.k g i
    · rw [if_pos e] at hk; cases hk
    · rw [if_neg e] at hk
      obtain ⟨a, b, ha, hb, hfb, ek⟩ := h.dom k y hk
      have hne : ¬ (a = g ∧ b = i) := by rintro ⟨rfl, rfl⟩; exact e ek.symm
      exact ⟨a, b, ha, hb, by rw [B a b hb, if_neg hne]; exact hfb, by rw [putG_k, if_neg hne]; exact ek⟩

/-- Where a key is not on its way up to an empty slot, it is nowhere. -/
theorem Good.nowhere {seed : Int} {S : Grps} {m : ByteArray → Option Int} (h : Good seed S m) (key : ByteArray) (n : Nat)
    (hno : ∀ j, j < n → ∀ i, i < 8 → bytI (S.w (pg (hk seed key) S.G j)) i < 128 → S.k (pg (hk seed key) S.G j) i ≠ key)
    (hend : S.G ≤ n ∨ ∃ j, j < n ∧ ∃ q, q < 8 ∧ bytI (S.w (pg (hk seed key) S.G j)) q = 128) : m key = none := by
  cases hm : m key with
  | none => rfl
  | some x =>
    exfalso
    obtain ⟨g, i, hg, hi, hf, ek⟩ := h.dom key x hm
    obtain ⟨d, hd, hdg⟩ := pg_onto (hk seed key) S.G g hg
    by_cases c : d < n
    · exact hno d c i hi (by rw [hdg]; exact hf) (by rw [hdg]; exact ek)
    · rcases hend with hend | ⟨j, hj, q, hq, hE⟩
      · omega
      · have := h.way g i d hg hi hf hd (by rw [ek]; exact hdg) j (by omega) q hq
        rw [ek] at this
        exact this hE

/-- There is a slot that is free on each way, as long as not all are taken. -/
theorem free_ahead (S : Grps) (h : Int) (hc : cnt isFull S.w S.G < 8 * S.G) : ∃ j, j < S.G ∧ ∃ i, i < 8 ∧ 128 ≤ bytI (S.w (pg h S.G j)) i := by
  have aux : ∀ n, (∀ g, g < n → ∀ i, i < 8 → bytI (S.w g) i < 128) → cnt isFull S.w n = 8 * n := by
    intro n
    induction n with
    | zero => intro _; rfl
    | succ n ih =>
      intro hall
      simp only [cnt]
      rw [ih fun g hg => hall g (by omega)]
      have h1 := slots_full_free (S.w n)
      have h2 : ¬ 0 < (slotsI isFree (S.w n) 8).length := by
        rw [slots_pos]; rintro ⟨i, hi, hp⟩
        have := hall n (by omega) i hi
        simp [isFree] at hp; omega
      omega
  apply Classical.byContradiction
  intro hno
  have : cnt isFull S.w S.G = 8 * S.G := aux S.G fun g hg i hi => by
    obtain ⟨j, hj, e⟩ := pg_onto h S.G g hg
    apply Classical.byContradiction
    intro hn
    exact hno ⟨j, hj, i, hi, by rw [e]; omega⟩
  omega
end Go.Proofs.Ytkkijcnipjojoaa
