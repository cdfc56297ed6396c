/- Words and contracts of functions for the statement's proof. No condition. -/
import Derived.Test.YtndikkpmlofebaaA4
set_option linter.all false

/- Numbers by parts of 32 bits, the lowest first: plain laws. -/
namespace Go.Ga
open Go

def u32V (x : UInt32) : Value := .int .u32 (x.toNat : Nat)

/-- The number of a list of parts. -/
def lv : List UInt32 → Nat
  | [] => 0
  | x :: l => x.toNat + 4294967296 * lv l

/-- A number's parts, as few as may be. -/
def lb (n : Nat) : List UInt32 := if n = 0 then [] else UInt32.ofNat n :: lb (n / 4294967296)
termination_by n
decreasing_by omega

theorem lb_zero : lb 0 = [] := by rw [lb]; rfl
theorem lb_pos {n : Nat} (h : n ≠ 0) : lb n = UInt32.ofNat n :: lb (n / 4294967296) := by rw [lb, if_neg h]
theorem ofNat32 (n : Nat) : (UInt32.ofNat n).toNat = n % 4294967296 := by rw [UInt32.toNat_ofNat']
theorem lt32 (x : UInt32) : x.toNat < 4294967296 := x.toNat_lt

theorem lv_lb (n : Nat) : lv (lb n) = n := by
  induction n using Nat.strongRecOn with
  | _ n ih =>
    by_cases h : n = 0
    · subst h; rw [lb_zero]; rfl
    · rw [lb_pos h, lv, ih _ (by omega), ofNat32]; omega

theorem lb_inj {a b : Nat} (h : lb a = lb b) : a = b := by rw [← lv_lb a, ← lv_lb b, h]
theorem lb_eq_iff {a b : Nat} : lb a = lb b ↔ a = b := ⟨lb_inj, fun h => by rw [h]⟩

theorem lb_cons (x : UInt32) (n : Nat) : lb (x.toNat + 4294967296 * n) = if n = 0 ∧ x = 0 then [] else x :: lb n := by
  by_cases h : n = 0 ∧ x = 0
  · obtain ⟨rfl, rfl⟩ := h
    rw [if_pos ⟨rfl, rfl⟩]
    exact lb_zero
  · rw [if_neg h]
    have hx := lt32 x
    have hne : x.toNat + 4294967296 * n ≠ 0 := by
      intro h0
      apply h
      refine ⟨by omega, ?_⟩
      apply UInt32.toNat_inj.1
      simp; omega
    rw [lb_pos hne]
    have e1 : UInt32.ofNat (x.toNat + 4294967296 * n) = x := by
      apply UInt32.toNat_inj.1
      rw [ofNat32]; omega
    have e2 : (x.toNat + 4294967296 * n) / 4294967296 = n := by omega
    rw [e1, e2]

theorem lv_append (a b : List UInt32) : lv (a ++ b) = lv a + 4294967296 ^ a.length * lv b := by
  induction a with
  | nil => simp [lv]
  | cons x a ih =>
    rw [List.cons_append, lv, ih, lv, List.length_cons, Nat.pow_succ, Nat.mul_add, Nat.add_assoc, Nat.mul_comm (4294967296 ^ a.length) 4294967296, Nat.mul_assoc]

theorem lv_lt (l : List UInt32) : lv l < 4294967296 ^ l.length := by
  induction l with
  | nil => simp [lv]
  | cons x l ih =>
    have := lt32 x
    rw [lv, List.length_cons, Nat.pow_succ]
    omega

theorem lv_zero {l : List UInt32} (h : ∀ j, j < l.length → l.getD j 0 = 0) : lv l = 0 := by
  induction l with
  | nil => rfl
  | cons x l ih =>
    have h0 := h 0 (by simp)
    simp only [List.getD_cons_zero] at h0
    rw [lv, ih (fun j hj => by have := h (j + 1) (by simpa using hj); simpa using this), h0]
    rfl

/-- Without noughts at its end a list is its number's. -/
theorem lb_lv_take : ∀ (l : List UInt32) (k : Nat), k ≤ l.length → (∀ j, k ≤ j → j < l.length → l.getD j 0 = 0) → (k = 0 ∨ l.getD (k - 1) 0 ≠ 0) → lb (lv l) = l.take k
  | [], k, hk, _, _ => by
    have : k = 0 := by simpa using hk
    subst this
    exact lb_zero
  | x :: l, 0, _, hz, _ => by
    rw [List.take_zero, lv_zero (fun j hj => hz j (Nat.zero_le _) hj)]
    exact lb_zero
  | x :: l, k + 1, hk, hz, hl => by
    have ih := lb_lv_take l k (by simpa using hk) (fun j h1 h2 => by have := hz (j + 1) (by omega) (by simpa using h2); simpa using this) (by
      rcases Nat.eq_zero_or_pos k with h | h
      · exact .inl h
      · right
        rcases hl with hl | hl
        · omega
        · obtain ⟨j, rfl⟩ : ∃ j, k = j + 1 := ⟨k - 1, by omega⟩
          simpa using hl)
    rw [lv, lb_cons, ih, List.take_succ_cons]
    rw [if_neg]
    rintro ⟨h1, h2⟩
    have h3 : l.take k = [] := by rw [← ih, h1, lb_zero]
    rcases Nat.eq_zero_or_pos k with h | h
    · subst h
      rcases hl with hl | hl
      · omega
      · simp at hl; exact hl h2
    · have : (l.take k).length = 0 := by rw [h3]; rfl
      simp at this hk
      rcases this with h | h
      · omega
      · subst h; simp at hk; omega

theorem lb_len_le {n k : Nat} : (lb n).length ≤ k ↔ n < 4294967296 ^ k := by
  constructor
  · intro h
    have h1 := lv_lt (lb n)
    rw [lv_lb] at h1
    exact Nat.lt_of_lt_of_le h1 (Nat.pow_le_pow_right (by decide) h)
  · induction k generalizing n with
    | zero =>
      intro h
      have : n = 0 := by simpa using h
      subst this
      rw [lb_zero]; simp
    | succ k ih =>
      intro h
      by_cases h0 : n = 0
      · subst h0; rw [lb_zero]; simp
      · rw [lb_pos h0, List.length_cons]
        rw [Nat.pow_succ] at h
        have := ih (n := n / 4294967296) (by omega)
        omega

theorem lb_get (n : Nat) : ∀ i, ((lb n).getD i 0).toNat = n / 4294967296 ^ i % 4294967296 := by
  induction n using Nat.strongRecOn with
  | _ n ih =>
    intro i
    by_cases h : n = 0
    · subst h; rw [lb_zero]; simp
    · rw [lb_pos h]
      cases i with
      | zero => rw [List.getD_cons_zero, ofNat32]; simp
      | succ i =>
        rw [List.getD_cons_succ, ih _ (by omega), Nat.pow_succ, Nat.mul_comm, Nat.div_div_eq_div_mul]

theorem lv_get : ∀ (l : List UInt32) (i : Nat), (l.getD i 0).toNat = lv l / 4294967296 ^ i % 4294967296
  | [], i => by simp [lv]
  | x :: l, 0 => by
    have := lt32 x
    rw [List.getD_cons_zero, lv, Nat.pow_zero, Nat.div_one]; omega
  | x :: l, i + 1 => by
    have := lt32 x
    rw [List.getD_cons_succ, lv_get l i, lv, Nat.pow_succ, Nat.mul_comm (4294967296 ^ i), ← Nat.div_div_eq_div_mul]
    have e : (x.toNat + 4294967296 * lv l) / 4294967296 = lv l := by omega
    rw [e]

/-- Parts that are a number's, and no more than it has. -/
theorem lv_inj : ∀ {a b : List UInt32}, a.length = b.length → lv a = lv b → a = b
  | [], [], _, _ => rfl
  | x :: a, y :: b, hl, h => by
    have hx := lt32 x
    have hy := lt32 y
    rw [lv, lv] at h
    have e1 : x = y := by apply UInt32.toNat_inj.1; omega
    have e2 : lv a = lv b := by omega
    rw [e1, lv_inj (by simpa using hl) e2]

theorem lv_take_succ {l : List UInt32} {i : Nat} (h : i < l.length) : lv (l.take (i + 1)) = lv (l.take i) + 4294967296 ^ i * (l.getD i 0).toNat := by
  have e : l.take (i + 1) = l.take i ++ [l.getD i 0] := by
    rw [List.take_add_one, List.getD_eq_getElem?_getD, List.getElem?_eq_getElem h]; rfl
  rw [e, lv_append]
  simp only [List.length_take, lv, Nat.mul_zero, Nat.add_zero]
  rw [Nat.min_eq_left (by omega)]

theorem lv_drop_cons {l : List UInt32} {i : Nat} (h : i < l.length) : lv (l.drop i) = (l.getD i 0).toNat + 4294967296 * lv (l.drop (i + 1)) := by
  have e : l.drop i = l.getD i 0 :: l.drop (i + 1) := by
    rw [List.drop_eq_getElem_cons h, List.getD_eq_getElem?_getD, List.getElem?_eq_getElem h]; rfl
  rw [e, lv]

theorem lv_split (l : List UInt32) (i : Nat) (h : i ≤ l.length) : lv l = lv (l.take i) + 4294967296 ^ i * lv (l.drop i) := by
  conv => lhs; rw [← List.take_append_drop i l]
  rw [lv_append, List.length_take, Nat.min_eq_left h]

/-- How many bits a number has. -/
def bl (n : Nat) : Nat := if n = 0 then 0 else n.log2 + 1
theorem bl_zero : bl 0 = 0 := rfl
theorem bl_lt (n : Nat) : n < 2 ^ bl n := by
  unfold bl
  split
  · subst_vars; decide
  · exact Nat.lt_log2_self
theorem bl_le {n k : Nat} : bl n ≤ k ↔ n < 2 ^ k := by
  constructor
  · intro h
    exact Nat.lt_of_lt_of_le (bl_lt n) (Nat.pow_le_pow_right (by decide) h)
  · intro h
    unfold bl
    split
    · exact Nat.zero_le _
    · rename_i h0
      exact (Nat.log2_lt h0).2 h
theorem bl_eq {n k : Nat} (h1 : 2 ^ k ≤ n) (h2 : n < 2 ^ (k + 1)) : bl n = k + 1 := by
  have a := bl_le.2 h2
  rcases Nat.lt_or_ge k (bl n) with h | h
  · omega
  · have := bl_le.1 h; omega
theorem bl_pos {n : Nat} (h : n ≠ 0) : 2 ^ (bl n - 1) ≤ n := by
  rcases Nat.lt_or_ge n (2 ^ (bl n - 1)) with h1 | h1
  · have a := bl_le.2 h1
    have b : bl n ≠ 0 := fun e => by have := bl_le.1 (Nat.le_of_eq e); simp at this; exact h this
    omega
  · exact h1
theorem bl_div {n s : Nat} (h : 2 ^ s ≤ n) : bl n = bl (n / 2 ^ s) + s := by
  have hp : 0 < 2 ^ s := Nat.pow_pos (by decide)
  have h0 : n / 2 ^ s ≠ 0 := by
    have := Nat.div_pos h hp
    omega
  have h1 := bl_pos h0
  have h2 := bl_lt (n / 2 ^ s)
  have h3 : bl (n / 2 ^ s) ≠ 0 := fun e => by have := bl_le.1 (Nat.le_of_eq e); simp at this; omega
  obtain ⟨k, hk⟩ : ∃ k, bl (n / 2 ^ s) = k + 1 := ⟨bl (n / 2 ^ s) - 1, by omega⟩
  rw [hk] at h1 h2 ⊢
  have e1 : n = n / 2 ^ s * 2 ^ s + n % 2 ^ s := (Nat.div_add_mod' n (2 ^ s)).symm
  have e2 : n % 2 ^ s < 2 ^ s := Nat.mod_lt _ hp
  have e3 : bl n = (k + s) + 1 := by
    refine bl_eq ?_ ?_
    · rw [Nat.pow_add]
      have := Nat.mul_le_mul_right (2 ^ s) h1
      simp only [Nat.add_sub_cancel] at this
      omega
    · rw [show k + s + 1 = (k + 1) + s by omega, Nat.pow_add]
      have := Nat.mul_le_mul_right (2 ^ s) (show n / 2 ^ s + 1 ≤ 2 ^ (k + 1) from h2)
      rw [Nat.add_mul] at this
      omega
  omega

theorem getD_u32 {l : List UInt32} {i : Nat} (h : i < l.length) : (l.map u32V).getD i undef = .int .u32 ((l.getD i 0).toNat : Nat) := by
  simp [List.getD_eq_getElem?_getD, List.getElem?_map, List.getElem?_eq_getElem h, u32V]
theorem cl_u32 (x : UInt32) : cellVal (u32V x) = true := rfl
theorem cv_u32 (x : UInt32) : cellsV (u32V x) = some [u32V x] := rfl
theorem all_u32 (l : List UInt32) : ∀ x ∈ l.map u32V, cellVal x = true := by
  intro x hx
  obtain ⟨b, _, rfl⟩ := List.mem_map.1 hx
  rfl

/-- A slice of parts, and what they are. -/
def W32 (nx : Nat) (gt : Nat → Option Blk) (v : Value) (l : List UInt32) : Prop := ∃ A n c, v = .slice A n c ∧ n ≤ c ∧ l.length = n ∧ Row nx gt 1 A n (l.map u32V)
theorem W32.keep {nx gt v l nx' gt'} (h : W32 nx gt v l) (h1 : nx ≤ nx') (h2 : ∀ n, n < nx → gt' n = gt n) : W32 nx' gt' v l := by
  obtain ⟨A, n, c, e1, e2, e3, e4⟩ := h
  exact ⟨A, n, c, e1, e2, e3, e4.keep h1 h2⟩
theorem W32.nil {nx gt} : W32 nx gt (.slice none 0 0) [] := ⟨none, 0, 0, rfl, Nat.le_refl _, rfl, .nil⟩
end Go.Ga

/- A slice of words that a law is given. -/
namespace Go.Ga
open Go

theorem wf_u32 {n : Int} (h : (Lit.int .u32 n).wf = true) : 0 ≤ n ∧ n ≤ 4294967295 := by
  have := (Lit.wf_int_iff _ _).1 h
  simpa [IntKind.min, IntKind.max, IntKind.signed, IntKind.bits] using this
theorem wf_u32N {n : Int} (h : (Lit.int .u32 n).wf = true) : ∃ x : Nat, n = x ∧ x < 4294967296 := by
  have := wf_u32 h
  exact ⟨n.toNat, by omega, by omega⟩

/-- A row's slice of words. -/
theorem absV_words {w : World} {a : Option Addr} {len cap : Nat} {zs : List Int} (h : IsRow .u32 w a len cap zs) :
    ∃ A, absV w (.slice a len cap) = .slice A len cap ∧ len ≤ cap ∧ ∃ l : List UInt32, Row w.heap.size (m0 w).get 1 A len (l.map u32V) := by
  rcases h with ⟨rfl, rfl, rfl, rfl⟩ | ⟨x, rfl, h1, h2, h3, h4, h5⟩
  · exact ⟨none, rfl, Nat.le_refl _, [], .nil⟩
  by_cases hc : cap = 0
  · subst hc
    have : len = 0 := by omega
    subst this
    exact ⟨some ⟨x.block, x.off, none⟩, by simp [absV, absC], Nat.le_refl _, [], ⟨fun a ha => by injection ha with ha; subst ha; exact .inl rfl, rfl, fun h => absurd h (Nat.lt_irrefl 0)⟩⟩
  have c0 := h4 0 (by omega)
  have hx : x.add 0 = x := by simp [Addr.add]
  rw [hx] at c0
  unfold World.cell? at c0
  split at c0
  · rename_i ce el fr hb
    have hsp : x.spot = none := by
      by_cases h : x.spot.isSome
      · rw [if_pos h] at c0; cases c0
      · simpa using h
    have hlt : x.block < w.heap.size := by
      rcases Nat.lt_or_ge x.block w.heap.size with h | h
      · exact h
      · rw [Array.getElem?_eq_none h] at hb; cases hb
    have hcell : ∀ i, i < cap → ce[x.off + i]? = some (.int .u32 (zs.getD i 0)) := by
      intro i hi
      have := h4 i (by omega)
      unfold World.cell? Addr.add at this
      by_cases h0 : i = 0
      · subst h0
        simp only [if_true, hb, hsp] at this
        simpa using this
      · simp only [if_neg h0, hb] at this
        simpa using this
    have hsz : x.off + cap ≤ ce.size := by
      have := hcell (cap - 1) (by omega)
      rcases Nat.lt_or_ge (x.off + (cap - 1)) ce.size with h | h
      · omega
      · rw [Array.getElem?_eq_none h] at this; cases this
    refine ⟨some x, ?_, h1, (zs.take len).map fun n => UInt32.ofNat n.toNat, ⟨fun a ha => by injection ha with ha; subst ha; exact .inl hsp, ?_, fun hN => ⟨x, ce.toList.map (absC w), true, rfl, hlt, ?_, ?_, fun i hi => ?_⟩⟩⟩
    · have : isCells w x.block = true := by simp [isCells, hb]
      simp [absV, absC, hc, hsp, h1, this]
    · simp; omega
    · simp [m0, hb]
    · simp; omega
    · have e1 := hcell i (by omega)
      have hz : i < zs.length := by omega
      have hw := wf_u32 (h5 (zs.getD i 0) (by rw [List.getD_eq_getElem?_getD, List.getElem?_eq_getElem hz]; exact List.getElem_mem hz))
      have e2 : ce.toList[x.off + i]? = some (.int .u32 (zs.getD i 0)) := by simpa using e1
      have e3 : (ce.toList.map (absC w)).getD (x.off + i) undef = .int .u32 (zs.getD i 0) := by
        rw [List.getD_eq_getElem?_getD, List.getElem?_map, e2]
        rfl
      rw [e3, getD_u32 (by simp; omega)]
      congr 1
      have e4 : ((zs.take len).map fun n => UInt32.ofNat n.toNat).getD i 0 = UInt32.ofNat (zs.getD i 0).toNat := by
        simp [List.getD_eq_getElem?_getD, List.getElem?_map, hi, List.getElem?_eq_getElem hz]
      rw [e4, UInt32.toNat_ofNat']
      omega
  · cases c0

end Go.Ga
