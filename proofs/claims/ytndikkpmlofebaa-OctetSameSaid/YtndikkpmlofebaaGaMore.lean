/- Small things of the walk. -/
import Derived.Test.YtndikkpmlofebaaGaInt
import Derived.Laws.Strings
namespace Go.Ga
open Go
theorem cv_int (k : IntKind) (n : Int) : cellsV (.int k n) = some [.int k n] := (rfl)
theorem cv_bool (b : Bool) : cellsV (.bool b) = some [.bool b] := (rfl)
theorem cv_str (b : ByteArray) : cellsV (.string b) = some [.string b] := (rfl)
theorem cv_sl (a n c) : cellsV (.slice a n c) = some [.slice a n c] := (rfl)
theorem cv_ptr (a) : cellsV (.pointer a) = some [.pointer a] := (rfl)
theorem cv_agg (a) : cellsV (.agg a) = some a.toList := (rfl)
theorem cl_int (k : IntKind) (n : Int) : cellVal (.int k n) = true := (rfl)
theorem cl_bool (b : Bool) : cellVal (.bool b) = true := (rfl)
theorem cl_str (b : ByteArray) : cellVal (.string b) = true := (rfl)
theorem cl_sl (a n c) : cellVal (.slice a n c) = true := (rfl)
theorem cl_ptr (a) : cellVal (.pointer a) = true := (rfl)
theorem all1 {v : Value} (h : cellVal v = true) : ∀ x ∈ [v], cellVal x = true := by simpa using h
theorem all_u8 (l : List UInt8) : ∀ x ∈ l.map u8V, cellVal x = true := by
  intro x hx
  obtain ⟨b, _, rfl⟩ := List.mem_map.1 hx
  rfl
theorem t2s (a b : Value) : (#[a, b] : Array Value).size = 2 := (rfl)
theorem t2a (a b u : Value) : (#[a, b] : Array Value).getD 0 u = a := (rfl)
theorem t2b (a b u : Value) : (#[a, b] : Array Value).getD 1 u = b := (rfl)
theorem t3s (a b c : Value) : (#[a, b, c] : Array Value).size = 3 := (rfl)
theorem t3a (a b c u : Value) : (#[a, b, c] : Array Value).getD 0 u = a := (rfl)
theorem t3b (a b c u : Value) : (#[a, b, c] : Array Value).getD 1 u = b := (rfl)
theorem t3c (a b c u : Value) : (#[a, b, c] : Array Value).getD 2 u = c := (rfl)
theorem zero1 (i : Nat) (z : Value) : [z].getD (i % [z].length) undef = z := by
  have : i % [z].length = 0 := by simp [Nat.mod_one]
  rw [this]; rfl

theorem zero1b (i : Nat) (z u : Value) : [z].getD (i % 1) u = z := by simp [Nat.mod_one]

theorem splice1_len {l : List Value} {o : Nat} {v : Value} (h : o < l.length) : (splice l o [v]).length = l.length := length_splice (by simp; omega)
theorem splice1 {l : List Value} {o : Nat} {v : Value} (h : o < l.length) (j : Nat) : (splice l o [v]).getD j undef = if j = o then v else l.getD j undef := by
  rw [getD_splice (by simp; omega)]
  by_cases hj : j = o
  · subst hj; simp
  · rw [if_neg hj, if_neg (by simp; omega)]

theorem getD_range (n : Nat) (F : Nat → Value) (i : Nat) (h : i < n) : ((List.range n).map F).getD i undef = F i := by
  simp [List.getD_eq_getElem?_getD, h]

/-- A slice of bytes, and what they are. -/
def BySl (nx : Nat) (gt : Nat → Option Blk) (v : Value) (l : List UInt8) : Prop := ∃ A n c, v = .slice A n c ∧ n ≤ c ∧ l.length = n ∧ Row nx gt 1 A n (l.map u8V)
theorem BySl.keep {nx gt v l nx' gt'} (h : BySl nx gt v l) (h1 : nx ≤ nx') (h2 : ∀ n, n < nx → gt' n = gt n) : BySl nx' gt' v l := by
  obtain ⟨A, n, c, e1, e2, e3, e4⟩ := h
  exact ⟨A, n, c, e1, e2, e3, e4.keep h1 h2⟩
theorem BySl.nil {nx gt} : BySl nx gt (.slice none 0 0) [] := ⟨none, 0, 0, rfl, Nat.le_refl _, rfl, .nil⟩
/-- A row that fills a block's first cells. -/
theorem BySl.mk {nx : Nat} {gt : Nat → Option Blk} {q n c : Nat} {sp : Option Nat} {ce : List Value} {ro : Bool} {l : List UInt8} (hs : sp = none ∨ sp = some 1) (hq : q < nx) (hg : gt q = some (.cells ce ro)) (hn : n ≤ c) (hc : n ≤ ce.length) (hl : l.length = n) (h : ∀ i, i < n → ce.getD i undef = u8V (l.getD i 0)) :
    BySl nx gt (.slice (some ⟨q, 0, sp⟩) n c) l := by
  refine ⟨_, _, _, rfl, hn, hl, fun a h => by injection h with h; subst h; exact hs, by simp [hl], fun h0 => ⟨_, ce, ro, rfl, hq, hg, by simp only; omega, fun i hi => ?_⟩⟩
  simp only [Nat.zero_add]
  rw [h i hi, getD_u8 (by omega)]
  rfl

theorem str_eq (x y : List UInt8) : ((⟨x.toArray⟩ : ByteArray).toList == (⟨y.toArray⟩ : ByteArray).toList) = (x == y) := by
  have h : ∀ l : List UInt8, (⟨l.toArray⟩ : ByteArray).toList = l := fun l => by
    rw [ByteArray.toList_eq]
  rw [h, h]

theorem cv_u8 (b : UInt8) : cellsV (u8V b) = some [u8V b] := (rfl)
theorem row_new {x b q n : Nat} {gt : Nat → Option Blk} {l : List Value} {ro : Bool} {sp : Option Nat} (h : n ≤ l.length) : rowOf ⟨x, b, upd gt q (some (.cells l ro))⟩ (some ⟨q, 0, sp⟩) n = some (l.take n) := by
  unfold rowOf
  by_cases hn : n = 0
  · subst hn; simp
  · simp [hn, upd, h]
theorem app1 {m : Mem} {a : Addr} {y n c : Nat} {v : Value} {K : Value → Mem → Prop} (h : n + 1 ≤ c) (hv : cellVal v = true) : appendK 1 y m (some a) n c 1 [v] K = writeK m a n [v] fun m' => K (.slice (some a) (n + 1) c) m' := by
  simp [appendK, h, hv]
theorem splice_end {done rest : List Value} {r v : Value} : splice (done ++ r :: rest) done.length [v] = (done ++ [v]) ++ rest := by
  simp [splice]

theorem BySl.row {nx gt A n c l} (h : BySl nx gt (.slice A n c) l) : Row nx gt 1 A n (l.map u8V) := by
  obtain ⟨A', n', c', e, _, _, h⟩ := h
  injection e with e1 e2 e3
  subst e1 e2 e3
  exact h
end Go.Ga
