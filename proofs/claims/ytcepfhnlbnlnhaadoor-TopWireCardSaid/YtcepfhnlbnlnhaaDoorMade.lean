/- THE WALK of aqueducttop.made: a packet out of a text; and packet.Put at any such packet. -/
import Derived.Test.YtcepfhnlbnlnhaaDoorFeed
import Derived.Test.YtcepfhnlbnlnhaaDoorPutE
import Derived.Deep.RegionHeld3
namespace Go.Proofs.YtcepfhnlbnlnhaaDoor
set_option maxRecDepth 100000
open Go.RowKit

def topicOf (T : ByteArray) : ByteArray := (⟨#[116]⟩ : ByteArray) ++ T.extract 0 (min T.size 30)
def idOf (id : Int) : Nat := 1 + (max 0 id).toNat % 65535
def qosOf (q : Int) : Nat := (max 0 q).toNat % 3
def mkPk (k q id : Int) (T B : ByteArray) : Pk :=
  match (max 0 k).toNat % 4 with
  | 1 => .sub (idOf id) (qosOf q) (topicOf T)
  | 2 => .ack (idOf id)
  | 3 => .ping
  | _ => .pub (qosOf q) (if qosOf q = 0 then 0 else idOf id) (topicOf T) (B.extract 0 (min B.size 300))
def textZ (k q id : Int) (T B : ByteArray) : Array Value := #[.int .i64 k, .int .i64 q, .int .i64 id, .string T, .string B]
/-- All that a packet must be, but that its topic is a text. -/
def Pk.Pre : Pk → Prop
  | .pub q id t b => q ≤ 2 ∧ (q = 0 → id = 0) ∧ (q ≠ 0 → IdOk id) ∧ t.size ≤ 31 ∧ b.size ≤ 300
  | .sub id q t => IdOk id ∧ q ≤ 2 ∧ t.size ≤ 31
  | .ack id => IdOk id
  | .ping => True
def Pk.bad : Pk → Bool
  | .pub _ _ t _ => (tbad t 0).isSome
  | .sub _ _ t => (tbad t 0).isSome
  | _ => false
theorem Pk.ok_of {p : Pk} (h : p.Pre) (hb : p.bad = false) : p.Ok := by
  cases p with
  | pub q id t b =>
    obtain ⟨h1, h2, h3, h4, h5⟩ := h
    exact ⟨h1, h2, h3, h4, by simpa [Pk.bad] using hb, h5⟩
  | sub id q t =>
    obtain ⟨h1, h2, h3⟩ := h
    exact ⟨h1, h2, h3, by simpa [Pk.bad] using hb⟩
  | ack id => exact h
  | ping => trivial
theorem id_ok (id : Int) : IdOk (idOf id) := by unfold IdOk idOf; omega
theorem qos_ok (q : Int) : qosOf q ≤ 2 := by unfold qosOf; omega
theorem topic_size (T : ByteArray) : (topicOf T).size ≤ 31 := by
  unfold topicOf
  rw [ByteArray.size_append, ByteArray.size_extract]
  have : (⟨#[116]⟩ : ByteArray).size = 1 := rfl
  omega
theorem mk_pre (k q id : Int) (T B : ByteArray) : (mkPk k q id T B).Pre := by
  unfold mkPk
  split
  · exact ⟨id_ok id, qos_ok q, topic_size T⟩
  · exact id_ok id
  · trivial
  · refine ⟨qos_ok q, fun h => by rw [if_pos h], fun h => by rw [if_neg h]; exact id_ok id, topic_size T, ?_⟩
    rw [ByteArray.size_extract]; omega
/-- The subscriptions of a packet that was just made. -/
def MadeAt (w : World) (B : Nat) (sv : Value) (p : Pk) : Prop :=
  match p.subs with
  | none => sv = .slice none 0 0
  | some (t, q) => ∃ g, sv = .slice (some ⟨g, 0, none⟩) 1 1 ∧ B ≤ g ∧ Blk w g 47 (subZ t q)
theorem MadeAt.subs {w : World} {B : Nat} {sv : Value} {p : Pk} (h : MadeAt w B sv p) : SubsAt w B sv p.subs := by
  unfold MadeAt at h
  cases hp : p.subs with
  | none => rw [hp] at h; exact h
  | some x =>
    rw [hp] at h
    obtain ⟨g, rfl, hb, hg⟩ := h
    exact ⟨rfl, .inr ⟨g, 1, subZ x.1 x.2, rfl, hb, hg, Nat.le_refl _, by unfold maxLen; omega, rfl, rfl⟩⟩
theorem MadeAt.slice {w : World} {B : Nat} {sv : Value} {p : Pk} (h : MadeAt w B sv p) : ∃ A l c, sv = .slice A l c := by
  unfold MadeAt at h
  split at h
  · exact ⟨_, _, _, h⟩
  · obtain ⟨g, rfl, _⟩ := h
    exact ⟨_, _, _, rfl⟩
theorem MadeAt.kept {w w' : World} {B : Nat} {sv : Value} {p : Pk} (h : MadeAt w B sv p) (hg : w.grownBy w' none) : MadeAt w' B sv p := by
  unfold MadeAt at h ⊢
  split at h
  · exact h
  · next t q hs =>
    obtain ⟨g, rfl, hb, hk⟩ := h
    exact ⟨g, rfl, hb, hk.grown hg (by simp)⟩
theorem step_store_row {P : Program} {ops : Array Oper} {o : Oper} {a : Act} {w : World} {K : Act → World → Prop} {Q : Exit → Act → World → Prop} {E : Prop} (hgd : o.guard = none) (ty : TypeId) (x y : Operand) (ho : o.op = .store ty x y)
    (g : Nat) (cells : Array Value) (hx : a.eval x = .pointer (some ⟨g, 0, none⟩)) (hy : a.eval y = .agg cells)
    (t : TypeId) (old : Array Value) (hg : w.heap[g]? = some (.cells old t (0, 0))) (hi : (P.info? ty).map (·.size) = some cells.size)
    (hold : old.size = cells.size) (h1 : cells.all (·.oneCell') = true)
    (h : K (a.put o.dst undef) (w.setRow g cells)) : if Region.wanted o (yielded ops a.tmps) = true then Oper.wp P o a w K Q else E := by
  have hw : Region.wanted o (yielded ops a.tmps) = true := by simp [Region.wanted, hgd]
  rw [if_pos hw]
  exact wp_store_row ty x y ho g cells hx hy t old hg hi hold h1 h
theorem yields_build {P : Program} {o : Oper} {a : Act} {w : World} (t : TypeId) (parts : Array (Nat × Operand)) (ho : o.op = .build t parts) (cells : Array Value)
    (hf : P.built t (parts.map fun (i, x) => (i, a.eval x)).toList = some cells) : (execOp a.eval o).run P w = .ok (.value (.agg cells)) w := by
  unfold execOp
  simp only [ho, Sem.run_bind, run_build w t _ cells hf, Result.andThen_ok]
  rfl
theorem built_pub (r : Int) (tt bb : ByteArray) : Tryd.prog.built 37 [(0, .int .i64 3), (3, .int .i64 r), (5, .string tt), (6, .string bb)] = some (pkZ 3 r 0 tt bb (.slice none 0 0)) := by kernel_rfl
section
variable {w : World}
theorem put_any (hT : U8 w) (p : Pk) (hp : p.Pre) {B : Nat} {sv : Value} (hs : MadeAt w B sv p) :
    Calls Tryd.prog 6 #[.agg (p.cells sv)] w (IsPut p.bad p.enc w) := by
  cases p with
  | pub q id t b =>
    obtain ⟨h1, h2, h3, h4, h5⟩ := hp
    obtain rfl : sv = .slice none 0 0 := hs
    exact put_pub hT q id t b h1 h3 h4 h5
  | sub id q t =>
    obtain ⟨h1, h2, h3⟩ := hp
    obtain ⟨g, rfl, hb, hg⟩ := hs
    exact put_sub hT id q t h1 h2 h3 (Nat.le_refl _) hg
  | ack id =>
    obtain rfl : sv = .slice none 0 0 := hs
    exact put_puback id hp
  | ping =>
    obtain rfl : sv = .slice none 0 0 := hs
    exact put_ping
theorem id_int (id : Int) : 1 + max 0 id % 65535 = ((idOf id : Nat) : Int) := by unfold idOf; omega
theorem qos_int (q : Int) : max 0 q % 3 = ((qosOf q : Nat) : Int) := by unfold qosOf; omega
theorem ext_min30 (T : ByteArray) : (min (T.size : Int) 30).toNat = min T.size 30 := by omega
theorem ext_min300 (T : ByteArray) : (min (T.size : Int) 300).toNat = min T.size 300 := by omega
theorem made_w0 (w : World) (zs : Array Value) : Blk ((w.alloc (.cells zs 27)).alloc (.cells (ackZ 0 0) 37)) (w.heap.size + 1) 37 (ackZ 0 0) := by
  have h := Blk.new (w.alloc (.cells zs 27)) 37 (ackZ 0 0)
  rw [show (w.alloc (.cells zs 27)).heap.size = w.heap.size + 1 by simp] at h
  exact h
theorem made_g0 (w : World) (zs : Array Value) : w.grownBy ((w.alloc (.cells zs 27)).alloc (.cells (ackZ 0 0) 37)) none := only_alloc (only_alloc (only_refl w none) _) _
set_option maxHeartbeats 6400000 in
theorem made_ack (k q id : Int) (T B : ByteArray) (n : Nat) (hk : max 0 k % 4 = 2) (hn : 1 + max 0 id % 65535 = (n : Int)) :
    Calls Tryd.prog 5 #[.agg (textZ k q id T B)] w fun e w' => e = .returned (.agg (pkZ 4 0 n ⟨#[]⟩ ⟨#[]⟩ (.slice none 0 0))) ∧ w.grownBy w' none := by
  have hA := made_w0 w (textZ k q id T B)
  have HF := Lib.hid (only_row (made_g0 w (textZ k q id T B)) (g := w.heap.size + 1) (by omega) (pkZ 4 0 n ⟨#[]⟩ ⟨#[]⟩ (.slice none 0 0)))
  have HQ := Lib.hid (hA.rowed (pkZ 4 0 n ⟨#[]⟩ ⟨#[]⟩ (.slice none 0 0)))
  have hone := Lib.hid (pk_one 4 0 n ⟨#[]⟩ ⟨#[]⟩ none 0 0)
  have hx := ext_min30 T
  unfold textZ at hA ⊢
  unfold ackZ at hA
  go_enter Tryd.func5, Tryd.ntmps5
  go_wp2_with (first
    | (refine wpList_store_row (by rfl) 37 _ _ (by rfl) (w.heap.size + 1) (pkZ 4 0 n ⟨#[]⟩ ⟨#[]⟩ (.slice none 0 0)) (by rfl) (by rfl) 37 _ hA (by kernel_rfl) (by rfl) hone.out ?_))
  refine bodyPost_ret (v := .agg (pkZ 4 0 n ⟨#[]⟩ ⟨#[]⟩ (.slice none 0 0))) ?_ rfl ?_
  · exact results_cell_row (p := 2) Tryd.results5 _ _ (w.heap.size + 1) 37 (pkZ 4 0 n ⟨#[]⟩ ⟨#[]⟩ (.slice none 0 0)) (0, 0) _ rfl HQ.out Tryd.underlying37 rfl (by kernel_rfl)
  · exact ⟨rfl, HF.out⟩
set_option maxHeartbeats 6400000 in
theorem made_ping (k q id : Int) (T B : ByteArray) (hk : max 0 k % 4 = 3) :
    Calls Tryd.prog 5 #[.agg (textZ k q id T B)] w fun e w' => e = .returned (.agg (pkZ 12 0 0 ⟨#[]⟩ ⟨#[]⟩ (.slice none 0 0))) ∧ w.grownBy w' none := by
  have hA := made_w0 w (textZ k q id T B)
  have HF := Lib.hid (only_row (made_g0 w (textZ k q id T B)) (g := w.heap.size + 1) (by omega) (pkZ 12 0 0 ⟨#[]⟩ ⟨#[]⟩ (.slice none 0 0)))
  have HQ := Lib.hid (hA.rowed (pkZ 12 0 0 ⟨#[]⟩ ⟨#[]⟩ (.slice none 0 0)))
  have hone := Lib.hid (pk_one 12 0 0 ⟨#[]⟩ ⟨#[]⟩ none 0 0)
  have hx := ext_min30 T
  unfold textZ at hA ⊢
  unfold ackZ at hA
  go_enter Tryd.func5, Tryd.ntmps5
  go_wp2_with (first
    | (refine wpList_store_row (by rfl) 37 _ _ (by rfl) (w.heap.size + 1) (pkZ 12 0 0 ⟨#[]⟩ ⟨#[]⟩ (.slice none 0 0)) (by rfl) (by rfl) 37 _ hA (by kernel_rfl) (by rfl) hone.out ?_))
  refine bodyPost_ret (v := .agg (pkZ 12 0 0 ⟨#[]⟩ ⟨#[]⟩ (.slice none 0 0))) ?_ rfl ?_
  · exact results_cell_row (p := 2) Tryd.results5 _ _ (w.heap.size + 1) 37 (pkZ 12 0 0 ⟨#[]⟩ ⟨#[]⟩ (.slice none 0 0)) (0, 0) _ rfl HQ.out Tryd.underlying37 rfl (by kernel_rfl)
  · exact ⟨rfl, HF.out⟩
set_option maxHeartbeats 6400000 in
theorem made_sub (k q id : Int) (T B : ByteArray) (n r : Nat) (hk : max 0 k % 4 = 1) (hn : 1 + max 0 id % 65535 = (n : Int)) (hr : max 0 q % 3 = (r : Int)) :
    Calls Tryd.prog 5 #[.agg (textZ k q id T B)] w fun e w' => ∃ g, w.heap.size ≤ g ∧ e = .returned (.agg (pkZ 8 0 n ⟨#[]⟩ ⟨#[]⟩ (.slice (some ⟨g, 0, none⟩) 1 1))) ∧ Blk w' g 47 (subZ (topicOf T) r) ∧ w.grownBy w' none := by
  have hB0 := made_w0 w (textZ k q id T B)
  have hA := hB0.alloc (.cells (subZ (topicOf T) r) 47)
  have hsz : ((w.alloc (.cells (textZ k q id T B) 27)).alloc (.cells (ackZ 0 0) 37)).heap.size = w.heap.size + 2 := by simp
  have hS := Blk.new ((w.alloc (.cells (textZ k q id T B) 27)).alloc (.cells (ackZ 0 0) 37)) 47 (subZ (topicOf T) r)
  rw [hsz] at hS
  have HS := Lib.hid (hS.rowFar (g := w.heap.size + 1) (by omega) (pkZ 8 0 n ⟨#[]⟩ ⟨#[]⟩ (.slice (some ⟨w.heap.size + 2, 0, none⟩) 1 1)))
  have HF := Lib.hid (only_row (only_alloc (made_g0 w (textZ k q id T B)) (.cells (subZ (topicOf T) r) 47)) (g := w.heap.size + 1) (by omega) (pkZ 8 0 n ⟨#[]⟩ ⟨#[]⟩ (.slice (some ⟨w.heap.size + 2, 0, none⟩) 1 1)))
  have HQ := Lib.hid (hA.rowed (pkZ 8 0 n ⟨#[]⟩ ⟨#[]⟩ (.slice (some ⟨w.heap.size + 2, 0, none⟩) 1 1)))
  have hone := Lib.hid (pk_one 8 0 n ⟨#[]⟩ ⟨#[]⟩ (some ⟨w.heap.size + 2, 0, none⟩) 1 1)
  have hx := ext_min30 T
  have HA := Lib.hid hA
  clear hA hS hsz hB0
  unfold textZ at HA ⊢
  unfold ackZ at HA
  have ht : (⟨#[116]⟩ : ByteArray) ++ T.extract 0 (min T.size 30) = topicOf T := rfl
  generalize topicOf T = tt at *
  unfold subZ at HA
  go_enter Tryd.func5, Tryd.ntmps5
  go_wp2_with (first
    | (refine wpList_store_row (by rfl) 37 _ _ (by rfl) (w.heap.size + 1) (pkZ 8 0 n ⟨#[]⟩ ⟨#[]⟩ (.slice (some ⟨w.heap.size + 2, 0, none⟩) 1 1)) (by rfl) (by rfl) 37 _ HA.out (by kernel_rfl) (by rfl) hone.out ?_))
  refine bodyPost_ret (v := .agg (pkZ 8 0 n ⟨#[]⟩ ⟨#[]⟩ (.slice (some ⟨w.heap.size + 2, 0, none⟩) 1 1))) ?_ rfl ?_
  · exact results_cell_row (p := 2) Tryd.results5 _ _ (w.heap.size + 1) 37 (pkZ 8 0 n ⟨#[]⟩ ⟨#[]⟩ (.slice (some ⟨w.heap.size + 2, 0, none⟩) 1 1)) (0, 0) _ rfl HQ.out Tryd.underlying37 rfl (by kernel_rfl)
  · exact ⟨w.heap.size + 2, by omega, rfl, HS.out, HF.out⟩
set_option maxHeartbeats 6400000 in
theorem made_pub (k q id : Int) (T B : ByteArray) (n r : Nat) (hk : max 0 k % 4 = 0) (hn : 1 + max 0 id % 65535 = (n : Int)) (hr : max 0 q % 3 = (r : Int)) :
    Calls Tryd.prog 5 #[.agg (textZ k q id T B)] w fun e w' => e = .returned (.agg (pkZ 3 r (if r = 0 then 0 else n : Nat) (topicOf T) (B.extract 0 (min B.size 300)) (.slice none 0 0))) ∧ w.grownBy w' none := by
  have hB0 := made_w0 w (textZ k q id T B)
  have hsz : ((w.alloc (.cells (textZ k q id T B) 27)).alloc (.cells (ackZ 0 0) 37)).heap.size = w.heap.size + 2 := by simp
  have hC := Blk.new ((w.alloc (.cells (textZ k q id T B) 27)).alloc (.cells (ackZ 0 0) 37)) 37 (ackZ 0 0)
  rw [hsz] at hC
  have hCd : Blk (((w.alloc (.cells (textZ k q id T B) 27)).alloc (.cells (ackZ 0 0) 37)).drew.alloc (.cells (ackZ 0 0) 37)) (w.heap.size + 2) 37 (ackZ 0 0) := hC
  have hg2 : w.grownBy (((w.alloc (.cells (textZ k q id T B) 27)).alloc (.cells (ackZ 0 0) 37)).drew.alloc (.cells (ackZ 0 0) 37)) none := only_alloc (only_drew (made_g0 w (textZ k q id T B))) _
  have hA2 : Blk (((w.alloc (.cells (textZ k q id T B) 27)).alloc (.cells (ackZ 0 0) 37)).drew.alloc (.cells (ackZ 0 0) 37)) (w.heap.size + 1) 37 (ackZ 0 0) := hB0.drew.alloc _
  have hx := ext_min30 T
  have hy := ext_min300 B
  have hy1 : (0 : Int) ≤ min (B.size : Int) 300 := by omega
  have hy2 : min (B.size : Int) 300 ≤ (B.size : Int) := by omega
  have hr2 : (max 0 q).tmod 3 = (r : Int) := by rw [← hr]; exact Int.tmod_eq_emod_of_nonneg (by omega)
  have HB0 := Lib.hid hB0
  have HC := Lib.hid hCd
  have HG2 := Lib.hid hg2
  have HA2 := Lib.hid hA2
  clear hB0 hC hCd hg2 hA2 hsz
  unfold textZ at HB0 HC HG2 HA2 ⊢
  unfold ackZ at HB0 HC HG2 HA2
  have ht : (⟨#[116]⟩ : ByteArray) ++ T.extract 0 (min T.size 30) = topicOf T := rfl
  generalize topicOf T = tt at *
  generalize hbb : B.extract 0 (min B.size 300) = bb at *
  have hone := Lib.hid (pk_one 3 r 0 tt bb none 0 0)
  have hon2 := Lib.hid (pk_one 3 r n tt bb none 0 0)
  go_enter Tryd.func5, Tryd.ntmps5
  go_wp2_with fail
  have hb1 : Blk ((w.alloc (.cells (textZ k q id T B) 27)).alloc (.cells (ackZ 0 0) 37)).drew w.heap.size 27 (textZ k q id T B) := (Blk.new w _ _).alloc _
  have r1 := hb1.cell 1
  have r4 := hb1.cell 4
  unfold ackZ textZ at r1 r4
  have hb2 := (hb1.alloc (.cells (ackZ 0 0) 37))
  have hb3 := hb2.rowFar (g := w.heap.size + 2) (by omega) (pkZ 3 r 0 tt bb (.slice none 0 0))
  have HS2 := Lib.hid (And.intro (hb2.cell 1) (hb2.cell 4))
  have HS3 := Lib.hid (And.intro (hb3.cell 1) (hb3.cell 4))
  have HC3 := Lib.hid (HC.out.rowed (pkZ 3 r 0 tt bb (.slice none 0 0)))
  have HA3 := Lib.hid (HA2.out.rowFar (g := w.heap.size + 2) (by omega) (pkZ 3 r 0 tt bb (.slice none 0 0)))
  unfold ackZ textZ at HS2 HS3
  clear hb1 hb2 hb3
  refine wp_region_held_drew (S := fun w' => w'.cell? ⟨w.heap.size, 1, none⟩ = some (.int .i64 q) ∧ w'.cell? ⟨w.heap.size, 4, none⟩ = some (.string B)) (by kernel_rfl) ⟨r1, r4⟩ (fun hHeld => ?_)
  refine wpAnyH_take (i := 0) (v := (.pointer (some ⟨w.heap.size, 1, none⟩))) rfl (by kernel_rfl) (by kernel_rfl) (by kernel_rfl) (fun _ _ _ h => h) (Or.inl ⟨by kernel_rfl, ?_⟩) hHeld ?_
  · (rintro w' ⟨h1, h2⟩; go_simp)
  change wpAnyH _ _ _ _ _ _ _ (Act.put _ (some 41) _) _
  simp only [Act.put, List.setIfInBounds_toArray, List.set_cons_zero, List.set_cons_succ]
  refine wpAnyH_take (i := 1) (v := (.int .i64 q)) rfl (by kernel_rfl) (by kernel_rfl) (by kernel_rfl) (fun _ _ _ h => h) (Or.inl ⟨by kernel_rfl, ?_⟩) hHeld ?_
  · (rintro w' ⟨h1, h2⟩; go_simp)
  change wpAnyH _ _ _ _ _ _ _ (Act.put _ (some 42) _) _
  simp only [Act.put, List.setIfInBounds_toArray, List.set_cons_zero, List.set_cons_succ]
  refine wpAnyH_take (i := 2) (v := (.int .i64 (max 0 q))) rfl (by kernel_rfl) (by kernel_rfl) (by kernel_rfl) (fun _ _ _ h => h) (Or.inl ⟨by kernel_rfl, ?_⟩) hHeld ?_
  · (rintro w' ⟨h1, h2⟩; go_simp)
  change wpAnyH _ _ _ _ _ _ _ (Act.put _ (some 43) _) _
  simp only [Act.put, List.setIfInBounds_toArray, List.set_cons_zero, List.set_cons_succ]
  refine wpAnyH_take (i := 3) (v := (.int .i64 (r : Int))) rfl (by kernel_rfl) (by kernel_rfl) (by kernel_rfl) (fun _ _ _ h => h) (Or.inl ⟨by kernel_rfl, ?_⟩) hHeld ?_
  · (rintro w' ⟨h1, h2⟩; go_simp)
  change wpAnyH _ _ _ _ _ _ _ (Act.put _ (some 44) _) _
  simp only [Act.put, List.setIfInBounds_toArray, List.set_cons_zero, List.set_cons_succ]
  refine wpAnyH_take (i := 4) (v := (.string tt)) rfl (by kernel_rfl) (by kernel_rfl) (by kernel_rfl) (fun _ _ _ h => h) (Or.inl ⟨by kernel_rfl, ?_⟩) hHeld ?_
  · (rintro w' ⟨h1, h2⟩; go_simp)
  change wpAnyH _ _ _ _ _ _ _ (Act.put _ (some 45) _) _
  simp only [Act.put, List.setIfInBounds_toArray, List.set_cons_zero, List.set_cons_succ]
  refine wpAnyH_take (i := 5) (v := (.pointer (some ⟨w.heap.size, 4, none⟩))) rfl (by kernel_rfl) (by kernel_rfl) (by kernel_rfl) (fun _ _ _ h => h) (Or.inl ⟨by kernel_rfl, ?_⟩) hHeld ?_
  · (rintro w' ⟨h1, h2⟩; go_simp)
  change wpAnyH _ _ _ _ _ _ _ (Act.put _ (some 46) _) _
  simp only [Act.put, List.setIfInBounds_toArray, List.set_cons_zero, List.set_cons_succ]
  refine wpAnyH_take (i := 6) (v := (.string B)) rfl (by kernel_rfl) (by kernel_rfl) (by kernel_rfl) (fun _ _ _ h => h) (Or.inl ⟨by kernel_rfl, ?_⟩) hHeld ?_
  · (rintro w' ⟨h1, h2⟩; go_simp)
  change wpAnyH _ _ _ _ _ _ _ (Act.put _ (some 47) _) _
  simp only [Act.put, List.setIfInBounds_toArray, List.set_cons_zero, List.set_cons_succ]
  refine wpAnyH_take (i := 7) (v := (.pointer (some ⟨w.heap.size, 4, none⟩))) rfl (by kernel_rfl) (by kernel_rfl) (by kernel_rfl) (fun _ _ _ h => h) (Or.inl ⟨by kernel_rfl, ?_⟩) hHeld ?_
  · (rintro w' ⟨h1, h2⟩; go_simp)
  change wpAnyH _ _ _ _ _ _ _ (Act.put _ (some 48) _) _
  simp only [Act.put, List.setIfInBounds_toArray, List.set_cons_zero, List.set_cons_succ]
  refine wpAnyH_take (i := 8) (v := (.string B)) rfl (by kernel_rfl) (by kernel_rfl) (by kernel_rfl) (fun _ _ _ h => h) (Or.inl ⟨by kernel_rfl, ?_⟩) hHeld ?_
  · (rintro w' ⟨h1, h2⟩; go_simp)
  change wpAnyH _ _ _ _ _ _ _ (Act.put _ (some 49) _) _
  simp only [Act.put, List.setIfInBounds_toArray, List.set_cons_zero, List.set_cons_succ]
  refine wpAnyH_take (i := 9) (v := (.int .i64 (B.size : Int))) rfl (by kernel_rfl) (by kernel_rfl) (by kernel_rfl) (fun _ _ _ h => h) (Or.inl ⟨by kernel_rfl, ?_⟩) hHeld ?_
  · (rintro w' ⟨h1, h2⟩; go_simp)
  change wpAnyH _ _ _ _ _ _ _ (Act.put _ (some 50) _) _
  simp only [Act.put, List.setIfInBounds_toArray, List.set_cons_zero, List.set_cons_succ]
  refine wpAnyH_take (i := 10) (v := (.int .i64 (min (B.size : Int) 300))) rfl (by kernel_rfl) (by kernel_rfl) (by kernel_rfl) (fun _ _ _ h => h) (Or.inl ⟨by kernel_rfl, ?_⟩) hHeld ?_
  · (rintro w' ⟨h1, h2⟩; go_simp)
  change wpAnyH _ _ _ _ _ _ _ (Act.put _ (some 51) _) _
  simp only [Act.put, List.setIfInBounds_toArray, List.set_cons_zero, List.set_cons_succ]
  refine wpAnyH_take (i := 11) (v := (.string bb)) rfl (by kernel_rfl) (by kernel_rfl) (by kernel_rfl) (fun _ _ _ h => h) (Or.inl ⟨by kernel_rfl, ?_⟩) hHeld ?_
  · (rintro w' ⟨h1, h2⟩; go_simp)
  change wpAnyH _ _ _ _ _ _ _ (Act.put _ (some 52) _) _
  simp only [Act.put, List.setIfInBounds_toArray, List.set_cons_zero, List.set_cons_succ]
  refine wpAnyH_take (i := 12) (v := (.agg (pkZ 3 r 0 tt bb (.slice none 0 0)))) rfl (by kernel_rfl) (by kernel_rfl) (by kernel_rfl) (fun _ _ _ h => h) (Or.inl ⟨by kernel_rfl, ?_⟩) hHeld ?_
  · (intro w' _; exact yields_build _ _ (by rfl) _ (by rw [Array.toList_map]; exact built_pub r tt bb))
  change wpAnyH _ _ _ _ _ _ _ (Act.put _ (some 53) _) _
  simp only [Act.put, List.setIfInBounds_toArray, List.set_cons_zero, List.set_cons_succ]
  refine wpAnyH_ready (rs := [13]) (by kernel_rfl) (by simp) ?_
  refine AllReadyH.cons rfl (fun K hK => ?_) AllReadyH.nil
  go_simp
  rw [show w.heap.size + 1 + 1 = w.heap.size + 2 from rfl]
  refine hK.out _ _ HS2.out (fun hHeld => ?_)
  clear hK K
  refine wpAnyH_ready (rs := [14]) (by kernel_rfl) (by simp) ?_
  refine AllReadyH.cons rfl (fun K hK => ?_) AllReadyH.nil
  refine step_store_row (by rfl) 37 _ _ (by rfl) (w.heap.size + 2) (pkZ 3 r 0 tt bb (.slice none 0 0)) (by rfl) (by rfl) 37 _ HC.out (by kernel_rfl) (by rfl) hone.out ?_
  refine hK.out _ _ HS3.out (fun hHeld => ?_)
  clear hK K
  refine wpAnyH_done (by kernel_rfl) ?_ _
  have c3 := HC3.out.cell 3
  have c4 := HC3.out.cell 4
  rw [show (pkZ 3 r 0 tt bb (.slice none 0 0))[3]? = some (.int .i64 (r : Int)) from rfl] at c3
  rw [show (pkZ 3 r 0 tt bb (.slice none 0 0))[4]? = some (.int .i64 0) from rfl] at c4
  have f4 := HC3.out.frozen 4
  have HG3 := Lib.hid (only_row HG2.out (g := w.heap.size + 2) (by omega) (pkZ 3 r 0 tt bb (.slice none 0 0)))
  clear hHeld
  obtain ⟨W3, hW3⟩ : ∃ W3, W3 = (((w.alloc (.cells (textZ k q id T B) 27)).alloc (.cells (ackZ 0 0) 37)).drew.alloc (.cells (ackZ 0 0) 37)).setRow (w.heap.size + 2) (pkZ 3 r 0 tt bb (.slice none 0 0)) := ⟨_, rfl⟩
  unfold textZ ackZ at hW3
  have hW4 : W3 = (((w.alloc (.cells (textZ k q id T B) 27)).alloc (.cells (ackZ 0 0) 37)).alloc (.cells (ackZ 0 0) 37)).drew.setRow (w.heap.size + 2) (pkZ 3 r 0 tt bb (.slice none 0 0)) := hW3
  unfold textZ ackZ at hW4
  rw [← hW3] at HC3 HA3 HG3 c3 c4 f4
  rw [← hW4]
  clear hW3 hW4 HS2 HS3 HC HA2 HG2 HB0
  by_cases hr0 : r = 0
  · have hr1 : ¬ (0 : Int) < (r : Int) := by omega
    have Hr0 := Lib.hid hr0
    clear hr0
    have HF := Lib.hid (only_row HG3.out (g := w.heap.size + 1) (by omega) (pkZ 3 0 0 tt bb (.slice none 0 0)))
    have HQ := Lib.hid (HA3.out.rowed (pkZ 3 0 0 tt bb (.slice none 0 0)))
    go_wp2_with (first
      | (refine wpList_load_row (by rfl) 37 _ (by rfl) (w.heap.size + 2) (by rfl) 37 _ (0, 0) _ HC3.out Tryd.underlying37 (by rfl) (by kernel_rfl) ?_)
      | (refine wpList_store_row (by rfl) 37 _ _ (by rfl) (w.heap.size + 1) (pkZ 3 r 0 tt bb (.slice none 0 0)) (by rfl) (by rfl) 37 _ HA3.out (by kernel_rfl) (by rfl) hone.out ?_))
    refine bodyPost_ret (v := .agg (pkZ 3 0 0 tt bb (.slice none 0 0))) ?_ rfl ?_
    · exact results_cell_row (p := 2) Tryd.results5 _ _ (w.heap.size + 1) 37 (pkZ 3 0 0 tt bb (.slice none 0 0)) (0, 0) _ rfl HQ.out Tryd.underlying37 rfl (by kernel_rfl)
    · exact ⟨rfl, HF.out⟩
  · have hr1 : (0 : Int) < (r : Int) := by omega
    have HC4 := Lib.hid (HC3.out.put 4 (.int .i64 (n : Int)))
    have HA4 := Lib.hid (HA3.out.far (p := ⟨w.heap.size + 2, 4, none⟩) (by show w.heap.size + 1 ≠ w.heap.size + 2; omega) (.int .i64 (n : Int)))
    have HG4 := Lib.hid (only_new HG3.out (p := ⟨w.heap.size + 2, 4, none⟩) (by show w.heap.size ≤ w.heap.size + 2; omega) (.int .i64 (n : Int)))
    have HF := Lib.hid (only_row HG4.out (g := w.heap.size + 1) (by omega) (pkZ 3 r n tt bb (.slice none 0 0)))
    have HQ := Lib.hid (HA4.out.rowed (pkZ 3 r n tt bb (.slice none 0 0)))
    go_wp2_with (first
      | (refine wpList_load_row (by rfl) 37 _ (by rfl) (w.heap.size + 2) (by rfl) 37 _ (0, 0) _ HC4.out Tryd.underlying37 (by rfl) (by kernel_rfl) ?_)
      | (refine wpList_store_row (by rfl) 37 _ _ (by rfl) (w.heap.size + 1) (pkZ 3 r n tt bb (.slice none 0 0)) (by rfl) (by rfl) 37 _ HA4.out (by kernel_rfl) (by rfl) hon2.out ?_))
    refine bodyPost_ret (v := .agg (pkZ 3 r n tt bb (.slice none 0 0))) ?_ rfl ?_
    · exact results_cell_row (p := 2) Tryd.results5 _ _ (w.heap.size + 1) 37 (pkZ 3 r n tt bb (.slice none 0 0)) (0, 0) _ rfl HQ.out Tryd.underlying37 rfl (by kernel_rfl)
    · exact ⟨rfl, HF.out⟩
theorem made_any (k q id : Int) (T B : ByteArray) :
    Calls Tryd.prog 5 #[.agg (textZ k q id T B)] w fun e w' => ∃ sv, e = .returned (.agg ((mkPk k q id T B).cells sv)) ∧ MadeAt w' w.heap.size sv (mkPk k q id T B) ∧ w.grownBy w' none := by
  have hn := id_int id
  have hr := qos_int q
  obtain ⟨c, hc⟩ : ∃ c, c = (max 0 k).toNat % 4 := ⟨_, rfl⟩
  have h4 : c = 0 ∨ c = 1 ∨ c = 2 ∨ c = 3 := by omega
  rcases h4 with h | h | h | h
  · have hm : mkPk k q id T B = .pub (qosOf q) (if qosOf q = 0 then 0 else idOf id) (topicOf T) (B.extract 0 (min B.size 300)) := by unfold mkPk; rw [← hc, h]; rfl
    rw [hm]
    exact (made_pub k q id T B (idOf id) (qosOf q) (by omega) hn hr).mono fun e w' ⟨he, hg⟩ => ⟨.slice none 0 0, he, rfl, hg⟩
  · have hm : mkPk k q id T B = .sub (idOf id) (qosOf q) (topicOf T) := by unfold mkPk; rw [← hc, h]; rfl
    rw [hm]
    exact (made_sub k q id T B (idOf id) (qosOf q) (by omega) hn hr).mono fun e w' ⟨g, hg0, he, hb, hg⟩ => ⟨.slice (some ⟨g, 0, none⟩) 1 1, he, ⟨g, rfl, hg0, hb⟩, hg⟩
  · have hm : mkPk k q id T B = .ack (idOf id) := by unfold mkPk; rw [← hc, h]; rfl
    rw [hm]
    exact (made_ack k q id T B (idOf id) (by omega) hn).mono fun e w' ⟨he, hg⟩ => ⟨.slice none 0 0, he, rfl, hg⟩
  · have hm : mkPk k q id T B = .ping := by unfold mkPk; rw [← hc, h]; rfl
    rw [hm]
    exact (made_ping k q id T B (by omega)).mono fun e w' ⟨he, hg⟩ => ⟨.slice none 0 0, he, rfl, hg⟩
end
end Go.Proofs.YtcepfhnlbnlnhaaDoor
