/- A memory as a list of words: what each call does to it (over the walks of CellsW). -/
import Derived.Test.YtaecapjicphdkaaGreatCellsW
namespace Go.Proofs.YtaecapjicphdkaaGreat
set_option linter.unusedVariables false
set_option linter.unusedSimpArgs false
open Go Go.RowKit
set_option maxRecDepth 100000

/-- Memory g: its words l (n of them, in block b), so many accesses, the last one. -/
structure Mem (w : World) (g b n : Nat) (l : List Int) (c : Int) (x : Acc) : Prop where
  hg : Has w g (cellsOf b n c x) 103
  hb : Has w b (u64s l) 99
  len : l.length = n
  small : n ≤ 9000000
  c0 : 0 ≤ c
  c1 : c ≤ 4611686018427387903
section
variable {w w' : World} {g b n : Nat} {l : List Int} {c : Int} {x : Acc}
theorem Mem.upd {S : List Nat} (M : Mem w g b n l c x) (h : Upd S w w') (h1 : g ∉ S) (h2 : b ∉ S) : Mem w' g b n l c x := ⟨M.hg.upd h h1, M.hb.upd h h2, M.len, M.small, M.c0, M.c1⟩
theorem Mem.keeps (M : Mem w g b n l c x) (h : Keeps w w') : Mem w' g b n l c x := ⟨M.hg.keeps h, M.hb.keeps h, M.len, M.small, M.c0, M.c1⟩
theorem Mem.drewN (M : Mem w g b n l c x) (k : Nat) : Mem (w.drewN k) g b n l c x := M.keeps (Keeps.of_drewN k)
theorem Mem.drew (M : Mem w g b n l c x) : Mem w.drew g b n l c x := M.keeps (Keeps.refl w).drew
theorem Mem.alloc (M : Mem w g b n l c x) (o : Obj) : Mem (w.alloc o) g b n l c x := M.keeps ((Keeps.refl w).alloc o)
theorem Mem.far (M : Mem w g b n l c x) {p : Addr} (h1 : g ≠ p.block) (h2 : b ≠ p.block) (u : Value) : Mem (w.setCell p u) g b n l c x := ⟨M.hg.far h1 u, M.hb.far h2 u, M.len, M.small, M.c0, M.c1⟩
theorem Mem.ne (M : Mem w g b n l c x) : g ≠ b := M.hg.ne M.hb (by decide)
theorem Mem.lt (M : Mem w g b n l c x) : g < w.heap.size ∧ b < w.heap.size := ⟨M.hg.lt, M.hb.lt⟩

theorem mload_in (M : Mem w g b n l c x) (i : Nat) {o : Int} (ho : l[i]? = some o) (hc : c < 4611686018427387903) :
    Calls Tryz.prog 118 #[.pointer (some ⟨g, 0, none⟩), .int .i64 i] w fun e w' => e = .returned (.tuple #[.int .u64 o, .int .i64 0]) ∧ Upd [g, b] w w' ∧ Mem w' g b n l (c + 1) ⟨1, i, o, o, true⟩ := by
  obtain ⟨hg, hb, rfl, hs, c0, c1⟩ := M
  exact (load_in g b l c x i o w hg hb ho (by omega) c0 (by omega)).mono fun e w' ⟨he, hu, h1, h2⟩ => ⟨he, hu, h1, h2, by simp, hs, by omega, by omega⟩
theorem mstore_in (M : Mem w g b n l c x) (i : Nat) {o : Int} (v : Int) (ho : l[i]? = some o) (hc : c < 4611686018427387903) :
    Calls Tryz.prog 124 #[.pointer (some ⟨g, 0, none⟩), .int .i64 i, .int .u64 v] w fun e w' => e = .returned (.int .i64 0) ∧ Upd [g, b] w w' ∧ Mem w' g b n (l.set i v) (c + 1) ⟨2, i, o, v, true⟩ := by
  obtain ⟨hg, hb, rfl, hs, c0, c1⟩ := M
  exact (store_in g b l c x i o v w hg hb ho (by omega) c0 (by omega)).mono fun e w' ⟨he, hu, h1, h2⟩ => ⟨he, hu, h1, h2, by simp, hs, by omega, by omega⟩
theorem mcas_eq (M : Mem w g b n l c x) (i : Nat) {o : Int} (v : Int) (ho : l[i]? = some o) (hc : c < 4611686018427387903) :
    Calls Tryz.prog 120 #[.pointer (some ⟨g, 0, none⟩), .int .i64 i, .int .u64 o, .int .u64 v] w fun e w' => e = .returned (.tuple #[.bool true, .int .i64 0]) ∧ Upd [g, b] w w' ∧ Mem w' g b n (l.set i v) (c + 1) ⟨3, i, o, v, true⟩ := by
  obtain ⟨hg, hb, rfl, hs, c0, c1⟩ := M
  exact (cas_eq g b l c x i o v w hg hb ho (by omega) c0 (by omega)).mono fun e w' ⟨he, hu, h1, h2⟩ => ⟨he, hu, h1, h2, by simp, hs, by omega, by omega⟩
theorem mcas_ne (M : Mem w g b n l c x) (i : Nat) {o : Int} (q v : Int) (ho : l[i]? = some o) (hc : c < 4611686018427387903) (hq : (o != q) = true) :
    Calls Tryz.prog 120 #[.pointer (some ⟨g, 0, none⟩), .int .i64 i, .int .u64 q, .int .u64 v] w fun e w' => e = .returned (.tuple #[.bool false, .int .i64 0]) ∧ Upd [g, b] w w' ∧ Mem w' g b n l (c + 1) ⟨3, i, o, o, false⟩ := by
  obtain ⟨hg, hb, rfl, hs, c0, c1⟩ := M
  exact (cas_ne g b l c x i o q v w hg hb ho (by omega) c0 (by omega) hq).mono fun e w' ⟨he, hu, h1, h2⟩ => ⟨he, hu, h1, h2, by simp, hs, by omega, by omega⟩
theorem mload_out (M : Mem w g b n l c x) (a : Int) (h : a < 0 ∨ (n : Int) ≤ a) :
    Calls Tryz.prog 118 #[.pointer (some ⟨g, 0, none⟩), .int .i64 a] w fun e w' => e = .returned (.tuple #[.int .u64 0, .int .i64 1]) ∧ w = w' := load_out g b n c x a w M.hg h
theorem mstore_out (M : Mem w g b n l c x) (a : Int) (v : Int) (h : a < 0 ∨ (n : Int) ≤ a) :
    Calls Tryz.prog 124 #[.pointer (some ⟨g, 0, none⟩), .int .i64 a, .int .u64 v] w fun e w' => e = .returned (.int .i64 1) ∧ w = w' := store_out g b n c x a v w M.hg h
theorem mcas_out (M : Mem w g b n l c x) (a : Int) (q v : Int) (h : a < 0 ∨ (n : Int) ≤ a) :
    Calls Tryz.prog 120 #[.pointer (some ⟨g, 0, none⟩), .int .i64 a, .int .u64 q, .int .u64 v] w fun e w' => e = .returned (.tuple #[.bool false, .int .i64 1]) ∧ w = w' := cas_out g b n c x a q v w M.hg h
theorem mpeek_out (M : Mem w g b n l c x) (a : Int) (h : a < 0 ∨ (n : Int) ≤ a) :
    Calls Tryz.prog 46 #[.pointer (some ⟨g, 0, none⟩), .int .i64 a] w fun e w' => e = .returned (.int .u64 0) ∧ w = w' := peek_out g b n c x a w M.hg h
theorem mlay_out (M : Mem w g b n l c x) (a : Int) (v : Int) (h : a < 0 ∨ (n : Int) ≤ a) :
    Calls Tryz.prog 88 #[.pointer (some ⟨g, 0, none⟩), .int .i64 a, .int .u64 v] w fun e w' => e = .returned (.int .i64 1) ∧ w = w' := lay_out g b n c x a v w M.hg h
theorem mpeek_in (M : Mem w g b n l c x) (i : Nat) {o : Int} (ho : l[i]? = some o) :
    Calls Tryz.prog 46 #[.pointer (some ⟨g, 0, none⟩), .int .i64 i] w fun e w' => e = .returned (.int .u64 o) ∧ w = w' := by
  obtain ⟨hg, hb, rfl, hs, c0, c1⟩ := M
  exact peek_in g b l c x i o w hg hb ho (by omega)
theorem mlay_in (M : Mem w g b n l c x) (i : Nat) {o : Int} (v : Int) (ho : l[i]? = some o) :
    Calls Tryz.prog 88 #[.pointer (some ⟨g, 0, none⟩), .int .i64 i, .int .u64 v] w fun e w' => e = .returned (.int .i64 0) ∧ Upd [g, b] w w' ∧ Mem w' g b n (l.set i v) c x := by
  have hne := M.ne
  obtain ⟨hg, hb, rfl, hs, c0, c1⟩ := M
  exact (lay_in g b l c x i o v w hg hb ho (by omega)).mono fun e w' ⟨he, hu, h2⟩ => ⟨he, hu.mono (by simp), hg.upd hu (by simp; exact hne), h2, by simp, hs, c0, c1⟩
theorem mload_at (M : Mem w g b n l c x) (i : Nat) {o : Int} (q : Int) (hq : q = i) (ho : l[i]? = some o) (hc : c < 4611686018427387903) :
    Calls Tryz.prog 118 #[.pointer (some ⟨g, 0, none⟩), .int .i64 q] w fun e w' => e = .returned (.tuple #[.int .u64 o, .int .i64 0]) ∧ Upd [g, b] w w' ∧ Mem w' g b n l (c + 1) ⟨1, i, o, o, true⟩ := by
  rw [hq]; exact mload_in M i ho hc
theorem mstore_at (M : Mem w g b n l c x) (i : Nat) {o : Int} (q v : Int) (hq : q = i) (ho : l[i]? = some o) (hc : c < 4611686018427387903) :
    Calls Tryz.prog 124 #[.pointer (some ⟨g, 0, none⟩), .int .i64 q, .int .u64 v] w fun e w' => e = .returned (.int .i64 0) ∧ Upd [g, b] w w' ∧ Mem w' g b n (l.set i v) (c + 1) ⟨2, i, o, v, true⟩ := by
  rw [hq]; exact mstore_in M i v ho hc
theorem mlay_at (M : Mem w g b n l c x) (i : Nat) {o : Int} (q v : Int) (hq : q = i) (ho : l[i]? = some o) :
    Calls Tryz.prog 88 #[.pointer (some ⟨g, 0, none⟩), .int .i64 q, .int .u64 v] w fun e w' => e = .returned (.int .i64 0) ∧ Upd [g, b] w w' ∧ Mem w' g b n (l.set i v) c x := by
  rw [hq]; exact mlay_in M i v ho
theorem mpeek_at (M : Mem w g b n l c x) (i : Nat) {o : Int} (q : Int) (hq : q = i) (ho : l[i]? = some o) :
    Calls Tryz.prog 46 #[.pointer (some ⟨g, 0, none⟩), .int .i64 q] w fun e w' => e = .returned (.int .u64 o) ∧ w = w' := by
  rw [hq]; exact mpeek_in M i ho
theorem mlen (M : Mem w g b n l c x) : Calls Tryz.prog 37 #[.pointer (some ⟨g, 0, none⟩)] w fun e w' => e = .returned (.int .i64 n) ∧ w = w' := clen_c g b n c x w M.hg
theorem mcount (M : Mem w g b n l c x) : Calls Tryz.prog 16 #[.pointer (some ⟨g, 0, none⟩)] w fun e w' => e = .returned (.int .i64 c) ∧ w = w' := count_c g b n c x w M.hg
theorem mnew (n : Nat) (w : World) (h0 : 1 ≤ n) (h1 : n ≤ 8388608) :
    Calls Tryz.prog 9 #[.int .i64 n] w fun e w' => ∃ g b : Nat, e = .returned (.tuple #[.pointer (some ⟨g, 0, none⟩), .int .i64 0]) ∧ Keeps w w' ∧ w.heap.size ≤ g ∧ w.heap.size ≤ b ∧ Mem w' g b n (List.replicate n 0) 0 ⟨0, 0, 0, 0, false⟩ :=
  (cnew_c n w h0 h1).mono fun e w' ⟨g, b, he, hk, h2, h3, h4, h5⟩ => ⟨g, b, he, hk, h2, h3, h4, h5, by simp, by omega, by omega, by omega⟩
theorem mnew_int (a : Int) (w : World) (h0 : 1 ≤ a) (h1 : a ≤ 8388608) :
    Calls Tryz.prog 9 #[.int .i64 a] w fun e w' => ∃ g b : Nat, e = .returned (.tuple #[.pointer (some ⟨g, 0, none⟩), .int .i64 0]) ∧ Keeps w w' ∧ w.heap.size ≤ g ∧ w.heap.size ≤ b ∧ Mem w' g b a.toNat (List.replicate a.toNat 0) 0 ⟨0, 0, 0, 0, false⟩ := by
  obtain ⟨n, rfl⟩ := Int.eq_ofNat_of_zero_le (show 0 ≤ a by omega)
  exact mnew n w (by omega) (by omega)
end

/-- A slice of integers that came in. -/
def Reads (k : IntKind) (W : World) (v : Value) (zs : List Int) : Prop :=
  ∃ a cap, v = .slice a zs.length cap ∧ (zs ≠ [] → ∃ b off, a = some ⟨b, off, none⟩ ∧ b < W.heap.size ∧ ∀ i z, zs[i]? = some z → W.cell? ⟨b, off + i, none⟩ = some (.int k z))
theorem Reads.keeps {k : IntKind} {W W' : World} {v : Value} {zs : List Int} (h : Reads k W v zs) (hk : Keeps W W') : Reads k W' v zs := by
  obtain ⟨a, cap, hv, h2⟩ := h
  refine ⟨a, cap, hv, fun hz => ?_⟩
  obtain ⟨b, off, ha, hb, hc⟩ := h2 hz
  exact ⟨b, off, ha, Nat.lt_of_lt_of_le hb hk.size, fun i z hi => by rw [hk.cell hb]; exact hc i z hi⟩

end Go.Proofs.YtaecapjicphdkaaGreat
