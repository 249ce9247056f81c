/- THE WALKS of Fixed and GetFixed, the program's and the document's: a number in two or four bytes, the highest first. -/
import Derived.Test.YtcepfhnlbnlnhaaGreatDoorChecked
import Derived.Test.YtcepfhnlbnlnhaaGreatDoorCrc
import Derived.WalkKit
import Derived.WalkSpells
import Derived.Outline
import Derived.Lib.Hide
import Derived.Handy
import Derived.Deep.AppendLies
namespace Go.Proofs.YtcepfhnlbnlnhaaGreatDoor
set_option maxRecDepth 100000
open Go.RowKit

/-- The k lowest bytes of a number, the highest of them first. -/
def be : Nat → Nat → List UInt8
  | 0, _ => []
  | k + 1, n => be k (n / 256) ++ [UInt8.ofNat (n % 256)]
theorem be_length : ∀ (k n : Nat), (be k n).length = k
  | 0, _ => rfl
  | k + 1, n => by simp [be, be_length k]

/-- A slice of bytes of the call's own. -/
def BRow (w : World) (B : Nat) (v : Value) (l : List UInt8) : Prop := w.ownsRow B 5 1 v l.length (l.map fun b => Value.int .u8 (b.toNat : Int))

theorem BRow.snoc {w : World} {B : Nat} {v : Value} {l : List UInt8} {b : UInt8} (h : w.ownsRow B 5 1 v (l.length + 1) ((l.map fun b => Value.int .u8 (b.toNat : Int)) ++ [.int .u8 (b.toNat : Int)])) : BRow w B v (l ++ [b]) := by
  unfold BRow; simpa using h
theorem BRow.cellsAt {w : World} {B g c : Nat} {l : List UInt8} (h : BRow w B (.slice (some ⟨g, 0, none⟩) l.length c) l) (j : Nat) (hj : j < l.length) : w.cell? ((⟨g, 0, none⟩ : Addr).add j) = some (.int .u8 (l[j].toNat : Int)) :=
  World.ownsRow.cells h (g := g) rfl j _ (by rw [List.getElem?_map, List.getElem?_eq_getElem hj]; rfl)
theorem shr_byte (n q : Nat) : (n : Int) / 2 ^ (8 * q) % 256 = ((UInt8.ofNat (n / 256 ^ q % 256)).toNat : Int) := by
  have e1 : (UInt8.ofNat (n / 256 ^ q % 256)).toNat = n / 256 ^ q % 256 := by simp
  have e2 : (2 : Int) ^ (8 * q) = ((256 ^ q : Nat) : Int) := by rw [Int.pow_mul]; simp
  rw [e1, e2]
  simp
theorem one_cell (w : World) (u : Value) (o : TypeId) : ∀ j x, [u][j]? = some x → (w.alloc (.cells #[u] o)).cell? ((⟨w.heap.size, 0, none⟩ : Addr).add j) = some x := by
  intro j x hj
  match j, hj with
  | 0, hj => simp at hj; subst hj; simp [Addr.add]
theorem Tryz.infoU8 : (Tryz.prog.info? 5).map (fun i => (i.zero, i.size, i.bytes)) = some (some (.int .u8 0), 1, 1) := by kernel_rfl

/-- The widths. -/
def Wd (k : Nat) : Prop := k = 1 ∨ k = 2 ∨ k = 4

theorem wide_yes (k : Nat) (h : Wd k) (w : World) : Calls Tryz.prog 65 #[.int .i64 k] w fun e w' => e = .returned (.bool true) ∧ w = w' := by
  rcases h with rfl | rfl | rfl <;> (go_enter Tryz.func65, Tryz.ntmps65; go_wp2; go_ret; exact ⟨rfl, rfl⟩)

theorem wd_pow (k : Nat) (h : Wd k) : wrap64 (2 ^ (8 * k)) = ((256 ^ k : Nat) : Int) := by
  rcases h with rfl | rfl | rfl <;> (simp only [wrap64]; decide)
theorem be_step (k q n : Nat) (h : q < k) : be (k - (q + 1)) (n / 256 ^ (q + 1)) ++ [UInt8.ofNat (n / 256 ^ q % 256)] = be (k - q) (n / 256 ^ q) := by
  obtain ⟨d, hd⟩ : ∃ d, k - q = d + 1 := ⟨k - q - 1, by omega⟩
  have hd' : k - (q + 1) = d := by omega
  rw [hd, hd', be, Nat.pow_succ, Nat.div_div_eq_div_mul]

set_option maxHeartbeats 400000 in
theorem fixed_any (k n : Nat) (hk : Wd k) (hn : n < 256 ^ k) (w : World) :
    Calls Tryz.prog 45 #[.int .i64 k, .int .i64 n] w fun e w' => e = .returned (.tuple #[.string ⟨(be k n).toArray⟩, .int .u8 0]) ∧ Below w.heap.size w w' := by
  obtain ⟨i0, hi0, hz0, hz1, hz2⟩ := info_parts Tryz.infoU8
  have hn' : n < 4294967296 := Nat.lt_of_lt_of_le hn (by rcases hk with rfl | rfl | rfl <;> decide)
  obtain ⟨hk1, hk4⟩ : 1 ≤ k ∧ k ≤ 4 := by rcases hk with rfl | rfl | rfl <;> omega
  have hub : (n : Int) < wrap64 (2 ^ (8 * k)) := by rw [wd_pow k hk]; omega
  clear hn
  go_enter Tryz.func45, Tryz.ntmps45
  go_wp2_with (go_at_call 65; refine (wide_yes k hk _).mono ?_; rintro e w' ⟨rfl, rfl⟩)
  go_loopw [6, 7] (fun b i wr => ∃ q : Nat, q ≤ k ∧ i = .int .i64 ((q : Int) - 1) ∧ BRow wr w.heap.size b (be (k - q) (n / 256 ^ q)) ∧ Below w.heap.size w wr) (fun _ i _ => (intOf i + 1).toNat)
  case atStart => exact ⟨k, Nat.le_refl _, rfl, by rw [Nat.sub_self]; exact World.ownsRow_nil _ _ _ _, Below.refl _ _⟩
  case round =>
    obtain ⟨q, hq, rfl, hown, hbel⟩ := hrel
    rcases q with _ | q
    · obtain ⟨g, cap, rfl, hg, hglt⟩ := World.ownsRow.form hown (by rw [be_length]; omega)
      have hconv := run_convert_bytes_back (P := Tryz.prog) wr 36 9 5 ⟨g, 0, none⟩ cap (be (k - 0) (n / 256 ^ 0)) Tryz.underlying36 Tryz.underlying5 Tryz.underlying9
        (BRow.cellsAt hown)
      simp only [Nat.sub_zero, Nat.pow_zero, Nat.div_one] at hconv ⊢
      clear hown
      go_wp2
      go_ret2
      exact ⟨rfl, hbel⟩
    · have eq1 : ((q + 1 : Nat) : Int) - 1 = (q : Int) := by omega
      rw [eq1]
      clear eq1
      have hv : (n : Int) / 2 ^ (8 * q) % 256 = ((UInt8.ofNat (n / 256 ^ q % 256)).toNat : Int) := shr_byte n q
      have hsz := hbel.size
      have Hs := Lib.hid (be_step k q n (by omega))
      generalize hb : UInt8.ofNat (n / 256 ^ q % 256) = bb at hv Hs
      clear hb
      have hlen := be_length (k - (q + 1)) (n / 256 ^ (q + 1))
      generalize hl : be (k - (q + 1)) (n / 256 ^ (q + 1)) = l at hown Hs hlen
      clear hl
      have Hlen := Lib.hid hlen
      have hl4 : l.length ≤ 4 := by omega
      clear hlen
      unfold BRow at hown
      go_wp2_with (at_builtin; refine wpList_append_lies _ rfl _ _ 36 rfl w.heap.size 5 i0 _ 1 1 Tryz.underlying36 hi0 hz0 hz1 hz2 rfl (by decide) _ _ _ rfl (hown.alloc _) ⟨wr.heap.size, 0, none⟩ 1 1 [.int .u8 (bb.toNat : Int)] rfl rfl (one_cell _ _ _) (by intro u hu; simp at hu; subst hu; rfl) (by omega) (by unfold maxLen; omega) (by omega) (by simp; omega) (wr.heap.size + 1) (by simp) ?_; intro g cap w1 hown1 hg1 hat1 hlt1)
      go_roundw
      case rel => 
        refine ⟨q, by omega, rfl, ?_, ?_⟩
        · rw [← Hs.out]; exact BRow.snoc hown1
        · exact (hbel.alloc hsz _).grown hg1 (by simp; omega) (fun k hk => (hown.lt k hk).1)
      case measure => simp [intOf]

theorem be_cons : ∀ (k n : Nat), be (k + 1) n = UInt8.ofNat (n / 256 ^ k % 256) :: be k n
  | 0, n => by simp [be]
  | k + 1, n => by
    rw [be, be_cons k (n / 256), be]
    simp [Nat.div_div_eq_div_mul, Nat.pow_succ, Nat.mul_comm]
theorem conv_one (w : World) (b : UInt8) : (convert 36 9 (.slice (some ⟨w.heap.size, 0, none⟩) 1 1)).run Tryz.prog (w.alloc (.cells #[.int .u8 (b.toNat : Int)] 5)) =
    .ok (.string ⟨[b].toArray⟩) (w.alloc (.cells #[.int .u8 (b.toNat : Int)] 5)) :=
  run_convert_bytes_back _ 36 9 5 ⟨w.heap.size, 0, none⟩ 1 [b] Tryz.underlying36 Tryz.underlying5 Tryz.underlying9
    (fun j hj => by simp at hj; subst hj; exact one_cell w (.int .u8 (b.toNat : Int)) 5 0 _ rfl)

end Go.Proofs.YtcepfhnlbnlnhaaGreatDoor
