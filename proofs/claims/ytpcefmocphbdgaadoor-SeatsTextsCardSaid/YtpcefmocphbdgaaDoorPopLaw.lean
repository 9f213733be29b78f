/- The ones of a word of 64 bits, counted by halves; in numbers. -/
import Derived.Test.YtpcefmocphbdgaaDoorSeatLaw
namespace Go.Proofs.YtpcefmocphbdgaaDoor
set_option linter.unusedVariables false
set_option linter.unusedSimpArgs false
set_option maxRecDepth 100000

theorem and_byte {b d x y : Nat} (hb : b < 256) (hd : d < 256) : (b + 256 * x) &&& (d + 256 * y) = (b &&& d) + 256 * (x &&& y) := by
  have h1 := Nat.and_mod_two_pow (a := b + 256 * x) (b := d + 256 * y) (n := 8)
  have h2 := Nat.and_div_two_pow (a := b + 256 * x) (b := d + 256 * y) (n := 8)
  have e1 : (b + 256 * x) % 2 ^ 8 = b := by omega
  have e2 : (d + 256 * y) % 2 ^ 8 = d := by omega
  have e3 : (b + 256 * x) / 2 ^ 8 = x := by omega
  have e4 : (d + 256 * y) / 2 ^ 8 = y := by omega
  rw [e1, e2] at h1
  rw [e3, e4] at h2
  have := Nat.div_add_mod ((b + 256 * x) &&& (d + 256 * y)) (2 ^ 8)
  rw [h1, h2] at this
  omega
def repB (m : Nat) : Nat → Nat
  | 0 => 0
  | k + 1 => m + 256 * repB m k
def mapB (f : Nat → Nat) : Nat → Nat → Nat
  | 0, _ => 0
  | k + 1, x => f (x % 256) + 256 * mapB f k (x / 256)
def pop1 (b : Nat) : Nat := (b / 2 &&& 85) + (b &&& 85)
def pop2 (b : Nat) : Nat := (b / 4 &&& 51) + (b &&& 51)
def pop3 (b : Nat) : Nat := b / 16 + b % 16
theorem pop1_byte : ∀ (b : Fin 256) (r : Fin 2), ((b.1 / 2 + 128 * r.1) &&& 85) = (b.1 / 2 &&& 85) := by decide +kernel
theorem pop2_byte : ∀ (b : Fin 256) (r : Fin 4), ((b.1 / 4 + 64 * r.1) &&& 51) = (b.1 / 4 &&& 51) := by decide +kernel
theorem pop_one : ∀ (k x : Nat), (x / 2 &&& repB 85 k) + (x &&& repB 85 k) = mapB pop1 k x
  | 0, x => by simp [repB, mapB]
  | k + 1, x => by
    have ih := pop_one k (x / 256)
    have hb : x % 256 < 256 := Nat.mod_lt _ (by decide)
    have hp := pop1_byte ⟨x % 256, hb⟩ ⟨x / 256 % 2, Nat.mod_lt _ (by decide)⟩
    dsimp only at hp
    have ex : x = x % 256 + 256 * (x / 256) := by omega
    generalize x % 256 = b at *
    generalize x / 256 = y at *
    subst ex
    have e1 : (b + 256 * y) / 2 = (b / 2 + 128 * (y % 2)) + 256 * (y / 2) := by omega
    have e2 : (b + 256 * y) % 256 = b := by omega
    have e3 : (b + 256 * y) / 256 = y := by omega
    rw [mapB, repB, e1, e2, e3, and_byte (by omega) (by decide), and_byte (by omega) (by decide), hp, ← ih, pop1]
    omega
theorem pop_two : ∀ (k x : Nat), (x / 4 &&& repB 51 k) + (x &&& repB 51 k) = mapB pop2 k x
  | 0, x => by simp [repB, mapB]
  | k + 1, x => by
    have ih := pop_two k (x / 256)
    have hb : x % 256 < 256 := Nat.mod_lt _ (by decide)
    have hp := pop2_byte ⟨x % 256, hb⟩ ⟨x / 256 % 4, Nat.mod_lt _ (by decide)⟩
    dsimp only at hp
    have ex : x = x % 256 + 256 * (x / 256) := by omega
    generalize x % 256 = b at *
    generalize x / 256 = y at *
    subst ex
    have e1 : (b + 256 * y) / 4 = (b / 4 + 64 * (y % 4)) + 256 * (y / 4) := by omega
    have e2 : (b + 256 * y) % 256 = b := by omega
    have e3 : (b + 256 * y) / 256 = y := by omega
    rw [mapB, repB, e1, e2, e3, and_byte (by omega) (by decide), and_byte (by omega) (by decide), hp, ← ih, pop2]
    omega
def okN : Nat → Nat → Prop
  | 0, x => x = 0
  | k + 1, x => x % 256 % 16 ≤ 4 ∧ x % 256 / 16 ≤ 4 ∧ okN k (x / 256)
theorem okN_low {k x : Nat} (h : okN k x) : x % 16 ≤ 4 := by
  cases k with
  | zero => simp only [okN] at h; subst h; decide
  | succ k => have := h.1; omega
theorem and15 (b : Nat) : b &&& 15 = b % 16 := Nat.and_two_pow_sub_one_eq_mod b 4
theorem pop_three : ∀ (k x : Nat), okN k x → ((x / 16 + x) &&& repB 15 k) = mapB pop3 k x
  | 0, x, _ => by simp [repB, mapB]
  | k + 1, x, h => by
    obtain ⟨h1, h2, h3⟩ := h
    have ih := pop_three k (x / 256) h3
    have hl := okN_low h3
    have hb : x % 256 < 256 := Nat.mod_lt _ (by decide)
    have ex : x = x % 256 + 256 * (x / 256) := by omega
    generalize x % 256 = b at *
    generalize x / 256 = y at *
    subst ex
    have e1 : (b + 256 * y) / 16 + (b + 256 * y) = (b / 16 + b + 16 * (y % 16)) + 256 * (y / 16 + y) := by omega
    have e2 : (b + 256 * y) % 256 = b := by omega
    have e3 : (b + 256 * y) / 256 = y := by omega
    rw [mapB, repB, e1, e2, e3, and_byte (by omega) (by decide), and15, ih, pop3]
    omega
theorem mapB_low {f : Nat → Nat} (hf : ∀ b, b < 256 → f b < 256) (k x : Nat) : mapB f (k + 1) x % 256 = f (x % 256) ∧ mapB f (k + 1) x / 256 = mapB f k (x / 256) := by
  have := hf (x % 256) (Nat.mod_lt _ (by decide))
  rw [mapB]
  constructor <;> omega
theorem mapB_comp {f g : Nat → Nat} (hf : ∀ b, b < 256 → f b < 256) : ∀ (k x : Nat), mapB g k (mapB f k x) = mapB (fun b => g (f b)) k x
  | 0, _ => rfl
  | k + 1, x => by
    obtain ⟨h1, h2⟩ := mapB_low hf k x
    rw [mapB, h1, h2, mapB_comp hf k, mapB]
theorem okN_map {f : Nat → Nat} (hf : ∀ b, b < 256 → f b < 256) (hn : ∀ b, b < 256 → f b % 16 ≤ 4 ∧ f b / 16 ≤ 4) : ∀ (k x : Nat), okN k (mapB f k x)
  | 0, _ => rfl
  | k + 1, x => by
    obtain ⟨h1, h2⟩ := mapB_low hf k x
    have := hn (x % 256) (Nat.mod_lt _ (by decide))
    exact ⟨by rw [h1]; exact this.1, by rw [h1]; exact this.2, by rw [h2]; exact okN_map hf hn k _⟩
def popB (b : Nat) : Nat := pop3 (pop2 (pop1 b))
theorem pop_facts : ∀ b : Fin 256, pop1 b.1 < 256 ∧ pop2 (pop1 b.1) < 256 ∧ pop2 (pop1 b.1) % 16 ≤ 4 ∧ pop2 (pop1 b.1) / 16 ≤ 4 ∧ popB b.1 ≤ 8 ∧ ((List.range 8).filter fun i => b.1.testBit i).length = popB b.1 := by decide +kernel
theorem pop_fact {b : Nat} (h : b < 256) : pop1 b < 256 ∧ pop2 (pop1 b) < 256 ∧ pop2 (pop1 b) % 16 ≤ 4 ∧ pop2 (pop1 b) / 16 ≤ 4 ∧ popB b ≤ 8 ∧ ((List.range 8).filter fun i => b.testBit i).length = popB b := pop_facts ⟨b, h⟩
theorem pop_all (x : Nat) : let y := (x / 2 &&& repB 85 8) + (x &&& repB 85 8); let z := (y / 4 &&& repB 51 8) + (y &&& repB 51 8); ((z / 16 + z) &&& repB 15 8) = mapB popB 8 x := by
  intro y z
  have ey : y = mapB pop1 8 x := pop_one 8 x
  have ez : z = mapB (fun b => pop2 (pop1 b)) 8 x := by
    show (y / 4 &&& repB 51 8) + (y &&& repB 51 8) = _
    rw [pop_two, ey, mapB_comp fun b hb => (pop_fact hb).1]
  rw [pop_three 8 z (by rw [ez]; exact okN_map (fun b hb => (pop_fact hb).2.1) (fun b hb => ⟨(pop_fact hb).2.2.1, (pop_fact hb).2.2.2.1⟩) 8 x), ez, mapB_comp fun b hb => (pop_fact hb).2.1]
  rfl
def sumB : Nat → Nat → Nat
  | 0, _ => 0
  | k + 1, x => popB (x % 256) + sumB k (x / 256)
theorem sumB_slots : ∀ (k x : Nat), ((List.range (8 * k)).filter fun i => x.testBit i).length = sumB k x
  | 0, _ => rfl
  | k + 1, x => by
    have ih := sumB_slots k (x / 256)
    rw [show 8 * (k + 1) = 8 + 8 * k by omega, List.range_add, List.filter_append, List.length_append, sumB, ← ih]
    congr 1
    · rw [← (pop_fact (Nat.mod_lt x (show 0 < 256 by decide))).2.2.2.2.2]
      congr 1
      refine List.filter_congr fun i hi => ?_
      have hi : i < 8 := List.mem_range.1 hi
      rw [show (256 : Nat) = 2 ^ 8 by decide, Nat.testBit_mod_two_pow]
      simp [hi]
    · rw [List.filter_map, List.length_map]
      congr 1
      refine List.filter_congr fun i _ => ?_
      show x.testBit (8 + i) = _
      rw [show (256 : Nat) = 2 ^ 8 by decide, Nat.testBit_div_two_pow]
      congr 1; omega
theorem pop_div {g m r : Nat} (hg : g ≤ 64) (h : m = g + 256 * r) : m / 256 = r := by omega
theorem pop_end {m y z u g0 g1 g2 g3 g4 g5 g6 g7 : Nat} (h0 : g0 ≤ 8) (h1 : g1 ≤ 8) (h2 : g2 ≤ 8) (h3 : g3 ≤ 8) (h4 : g4 ≤ 8) (h5 : g5 ≤ 8) (h6 : g6 ≤ 8) (h7 : g7 ≤ 8)
    (hm : m = g0 + 256 * (g1 + 256 * (g2 + 256 * (g3 + 256 * (g4 + 256 * (g5 + 256 * (g6 + 256 * g7))))))) (hy : y = m + m / 256) (hz : z = y + y / 65536) (hu : u = z + z / 4294967296) :
    m < 1152921504606846976 ∧ y < 1152921504606846976 ∧ z < 1152921504606846976 ∧ u < 1152921504606846976 ∧ u % 128 = g0 + (g1 + (g2 + (g3 + (g4 + (g5 + (g6 + (g7 + 0))))))) := by
  have d1 : m / 256 = g1 + 256 * (g2 + 256 * (g3 + 256 * (g4 + 256 * (g5 + 256 * (g6 + 256 * g7))))) := pop_div (by omega) hm
  have ey : y = (g0 + g1) + 256 * ((g1 + g2) + 256 * ((g2 + g3) + 256 * ((g3 + g4) + 256 * ((g4 + g5) + 256 * ((g5 + g6) + 256 * ((g6 + g7) + 256 * g7)))))) := by rw [hy, d1, hm]; omega
  have d2 : y / 256 = (g1 + g2) + 256 * ((g2 + g3) + 256 * ((g3 + g4) + 256 * ((g4 + g5) + 256 * ((g5 + g6) + 256 * ((g6 + g7) + 256 * g7))))) := pop_div (by omega) ey
  have d3 : y / 256 / 256 = (g2 + g3) + 256 * ((g3 + g4) + 256 * ((g4 + g5) + 256 * ((g5 + g6) + 256 * ((g6 + g7) + 256 * g7)))) := pop_div (by omega) d2
  have ez : z = (g0 + g1 + g2 + g3) + 256 * ((g1 + g2 + g3 + g4) + 256 * ((g2 + g3 + g4 + g5) + 256 * ((g3 + g4 + g5 + g6) + 256 * ((g4 + g5 + g6 + g7) + 256 * ((g5 + g6 + g7) + 256 * ((g6 + g7) + 256 * g7)))))) := by
    rw [hz, show y / 65536 = y / 256 / 256 by rw [Nat.div_div_eq_div_mul], d3, ey]; omega
  have f1 : z / 256 = (g1 + g2 + g3 + g4) + 256 * ((g2 + g3 + g4 + g5) + 256 * ((g3 + g4 + g5 + g6) + 256 * ((g4 + g5 + g6 + g7) + 256 * ((g5 + g6 + g7) + 256 * ((g6 + g7) + 256 * g7))))) := pop_div (by omega) ez
  have f2 : z / 256 / 256 = (g2 + g3 + g4 + g5) + 256 * ((g3 + g4 + g5 + g6) + 256 * ((g4 + g5 + g6 + g7) + 256 * ((g5 + g6 + g7) + 256 * ((g6 + g7) + 256 * g7)))) := pop_div (by omega) f1
  have f3 : z / 256 / 256 / 256 = (g3 + g4 + g5 + g6) + 256 * ((g4 + g5 + g6 + g7) + 256 * ((g5 + g6 + g7) + 256 * ((g6 + g7) + 256 * g7))) := pop_div (by omega) f2
  have f4 : z / 256 / 256 / 256 / 256 = (g4 + g5 + g6 + g7) + 256 * ((g5 + g6 + g7) + 256 * ((g6 + g7) + 256 * g7)) := pop_div (by omega) f3
  have eu : u = z + ((g4 + g5 + g6 + g7) + 256 * ((g5 + g6 + g7) + 256 * ((g6 + g7) + 256 * g7))) := by
    rw [hu, show z / 4294967296 = z / 256 / 256 / 256 / 256 by rw [Nat.div_div_eq_div_mul, Nat.div_div_eq_div_mul, Nat.div_div_eq_div_mul], f4]
  generalize hr : (g1 + g2 + g3 + g4) + 256 * ((g2 + g3 + g4 + g5) + 256 * ((g3 + g4 + g5 + g6) + 256 * ((g4 + g5 + g6 + g7) + 256 * ((g5 + g6 + g7) + 256 * ((g6 + g7) + 256 * g7))))) = r at ez
  generalize hq : (g5 + g6 + g7) + 256 * ((g6 + g7) + 256 * g7) = q at eu
  refine ⟨by clear hy hz hu d1 ey d2 d3 ez f1 f2 f3 f4 eu hr hq; omega, by clear hm hy hz hu d1 d2 d3 ez f1 f2 f3 f4 eu hr hq; omega, by clear hm hy hz hu d1 ey d2 d3 f1 f2 f3 f4 eu hq; omega, by clear hm hy hz hu d1 ey d2 d3 f1 f2 f3 f4; omega, by clear hm hy hz hu d1 ey d2 d3 f1 f2 f3 f4 hr hq; omega⟩
theorem map8 (x : Nat) : mapB popB 8 x = popB (x % 256) + 256 * (popB (x / 256 % 256) + 256 * (popB (x / 256 / 256 % 256) + 256 * (popB (x / 256 / 256 / 256 % 256) + 256 * (popB (x / 256 / 256 / 256 / 256 % 256) + 256 * (popB (x / 256 / 256 / 256 / 256 / 256 % 256) + 256 * (popB (x / 256 / 256 / 256 / 256 / 256 / 256 % 256) + 256 * popB (x / 256 / 256 / 256 / 256 / 256 / 256 / 256 % 256))))))) := by
  rw [mapB, mapB, mapB, mapB, mapB, mapB, mapB, mapB, mapB, Nat.mul_zero, Nat.add_zero]
theorem sum8 (x : Nat) : sumB 8 x = popB (x % 256) + (popB (x / 256 % 256) + (popB (x / 256 / 256 % 256) + (popB (x / 256 / 256 / 256 % 256) + (popB (x / 256 / 256 / 256 / 256 % 256) + (popB (x / 256 / 256 / 256 / 256 / 256 % 256) + (popB (x / 256 / 256 / 256 / 256 / 256 / 256 % 256) + (popB (x / 256 / 256 / 256 / 256 / 256 / 256 / 256 % 256) + 0))))))) := by
  rw [sumB, sumB, sumB, sumB, sumB, sumB, sumB, sumB, sumB]
theorem pop_byte8 (x : Nat) : popB (x % 256) ≤ 8 := (pop_fact (Nat.mod_lt x (by decide))).2.2.2.2.1
theorem pop_last {x m y z u : Nat} (hm : m = mapB popB 8 x) (hy : y = m + m / 256) (hz : z = y + y / 65536) (hu : u = z + z / 4294967296) :
    m < 1152921504606846976 ∧ y < 1152921504606846976 ∧ z < 1152921504606846976 ∧ u < 1152921504606846976 ∧ u % 128 = (slots x).length := by
  have hs : (slots x).length = sumB 8 x := sumB_slots 8 x
  rw [hs, sum8]
  rw [map8] at hm
  exact pop_end (pop_byte8 _) (pop_byte8 _) (pop_byte8 _) (pop_byte8 _) (pop_byte8 _) (pop_byte8 _) (pop_byte8 _) (pop_byte8 _) hm hy hz hu
end Go.Proofs.YtpcefmocphbdgaaDoor
