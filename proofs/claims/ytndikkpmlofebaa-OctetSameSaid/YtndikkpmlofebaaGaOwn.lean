/- A slice that grows by append, and strings that grow. -/
import Derived.Test.YtndikkpmlofebaaGaMore
namespace Go.Ga
open Go

/-- A slice of one's own that is only appended to: nil, or a whole block that append made. -/
def Own (nx b x : Nat) (g : Nat → Option Blk) (e : Nat) (A : Option Addr) (n : Nat) (l : List Value) : Prop :=
  l.length = n * e ∧ ((A = none ∧ n = 0) ∨ ∃ q, A = some ⟨q, 0, some e⟩ ∧ nx ≤ q ∧ q < x ∧ b ≤ q ∧ g q = some (.cells l false))

theorem Own.nil {nx b x g e} : Own nx b x g e none 0 [] := ⟨by simp, .inl ⟨rfl, rfl⟩⟩
theorem Own.keep {nx b x g e A n l x' g'} (h : Own nx b x g e A n l) (h1 : x ≤ x') (h2 : ∀ i, i < x → g' i = g i) : Own nx b x' g' e A n l := by
  refine ⟨h.1, ?_⟩
  rcases h.2 with h | ⟨q, e1, e2, e3, e4, e5⟩
  · exact .inl h
  · exact .inr ⟨q, e1, e2, by omega, e4, by rw [h2 q e3, e5]⟩
theorem Own.row {nx b x g e A n l} (h : Own nx b x g e A n l) : Row x g e A (n * e) l := by
  obtain ⟨hl, h⟩ := h
  rcases h with ⟨rfl, rfl⟩ | ⟨q, rfl, e2, e3, e4, e5⟩
  · have : l = [] := List.eq_nil_of_length_eq_zero (by rw [hl]; simp)
    subst this
    exact ⟨fun _ h => (nomatch h), by simp, fun h => absurd h (by simp)⟩
  · exact ⟨fun a h => by injection h with h; subst h; exact .inr rfl, hl, fun h0 => ⟨_, l, false, rfl, e3, e5, by simp only; omega, fun i hi => by simp⟩⟩

theorem own_append {nx b x n k e bytes : Nat} {g : Nat → Option Blk} {A : Option Addr} {l news : List Value} {K : Value → Mem → Prop} (h : Own nx b x g e A n l) (he : 0 < e) (hx : nx ≤ x) (hb : b ≤ x) (hk : 0 < k) (hl : news.length = k * e)
    (hv : ∀ v ∈ news, cellVal v = true) (hs : (n + k) * bytes ≤ 140737488355328) (hs' : n + k ≤ 9223372036854775807)
    (hK : ∀ g', (∀ i, i < nx → g' i = g i) → Own nx b (x + 1) g' e (some ⟨x, 0, some e⟩) (n + k) (l ++ news) → K (.slice (some ⟨x, 0, some e⟩) (n + k) (n + k)) ⟨x + 1, b, g'⟩) :
    appendK e bytes ⟨x, b, g⟩ A n n k news K := by
  have hrow := h.row
  have hr : rowOf ⟨x, b, g⟩ A (n * e) = some l := hrow.rowOf
  obtain ⟨hll, h⟩ := h
  have own : ∀ g', g' x = some (.cells (l ++ news) false) → Own nx b (x + 1) g' e (some ⟨x, 0, some e⟩) (n + k) (l ++ news) := fun g' hg =>
    ⟨by simp [hll, hl, Nat.add_mul], .inr ⟨x, rfl, hx, by omega, hb, hg⟩⟩
  unfold appendK
  refine ⟨hl, he, hv, ?_⟩
  rw [if_neg (by omega)]
  refine ⟨hs, hs', ?_⟩
  rw [hr]
  rcases h with ⟨rfl, rfl⟩ | ⟨q, rfl, e2, e3, e4, e5⟩
  · exact hK (upd g x (some (.cells (l ++ news) false))) (fun i hi => by simp only [upd_e]; rw [if_neg (by omega)]) (own _ (by simp only [upd_e, if_true]))
  · refine ⟨rfl, e4, ⟨_, e5⟩, ?_⟩
    exact hK (upd (upd g q none) x (some (.cells (l ++ news) false))) (fun i hi => by simp only [upd_e]; rw [if_neg (by omega), if_neg (by omega)]) (own _ (by simp only [upd_e, if_true]))

theorem str_app (x y : List UInt8) : (⟨x.toArray⟩ : ByteArray) ++ (⟨y.toArray⟩ : ByteArray) = ⟨(x ++ y).toArray⟩ := by
  apply ByteArray.ext
  rw [ByteArray.data_append]
  simp
theorem str_size (x : List UInt8) : (⟨x.toArray⟩ : ByteArray).size = x.length := rfl
theorem str_of (s : ByteArray) : s = ⟨s.data.toList.toArray⟩ := by
  apply ByteArray.ext; simp
end Go.Ga
