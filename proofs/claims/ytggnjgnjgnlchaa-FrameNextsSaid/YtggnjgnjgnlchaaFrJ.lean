/- Walks: Whole. -/
import Derived.Test.YtggnjgnjgnlchaaFrI
namespace Go.Proofs.Ytggnjgnjgnlchaa
set_option linter.unusedVariables false
set_option linter.unusedSimpArgs false
open Go.RowKit Go.Shelf
attribute [local go_sem] Oper.semAt_some

/-- the place behind the last -/
def lastE (l : List (Nat × Nat)) : Nat := match l.getLast? with | none => 0 | some x => x.1 + 8 + x.2
def lastW (l : List (Nat × Nat)) : Int := match l.getLast? with | none => 0 | some x => wrap64 (wrap64 ((x.1 : Int) + 8) + (x.2 : Int))
theorem lastW_snoc (l : List (Nat × Nat)) (x : Nat × Nat) : lastW (l ++ [x]) = wrap64 (wrap64 ((x.1 : Int) + 8) + (x.2 : Int)) := by simp [lastW]
theorem lastW_eq {l : List (Nat × Nat)} (h : ∀ x ∈ l, x.1 + 8 + x.2 ≤ 1000000000) : lastW l = (lastE l : Int) := by
  unfold lastW lastE
  cases e : l.getLast? with
  | none => rfl
  | some x =>
    have := h x (List.mem_of_getLast? e)
    simp only [wrap64]
    omega
def wholeN (p : List UInt8) : Nat := lastE ((scanK p 0).map keyL)
theorem scanK_in {p : List UInt8} : ∀ (f k : Nat) (x : Nat × List UInt8), x ∈ scanF p f k → x.1 + 8 + x.2.length ≤ p.length
  | 0, k, x, h => by simp [scanF] at h
  | f + 1, k, x, h => by
    unfold scanF at h
    split at h
    · rename_i b e hr
      have hk := next_ok hr
      rcases List.mem_cons.1 h with rfl | h
      · simp only; omega
      · exact scanK_in f e x h
    · simp at h
theorem lastW_scan (p : List UInt8) (hl : p.length ≤ 1000000000) : lastW ((scanK p 0).map keyL) = (wholeN p : Int) := by
  refine lastW_eq fun x hx => ?_
  obtain ⟨y, hy, rfl⟩ := List.mem_map.1 hx
  have := scanK_in _ _ y hy
  simp only [keyL]; omega

theorem scan1_stops (n : Nat) (hn : 1 ≤ n) (Bs lo : Nat) (a : Option Addr) (c : Nat) (p : List UInt8) (hl : p.length ≤ 1000000000) (hpc : p.length ≤ c) (hBl : lo ≤ Bs) (w : World)
    (hBs : w.cell? ⟨Bs, 0, none⟩ = some (.slice a p.length c)) (hp : BytesAt w a p) (hpb : ∀ k, blkOf a = some k → lo ≤ k ∧ k < w.heap.size) (hBw : Bs < w.heap.size) :
    SeqStopsK Fence.wide n Try.prog 38 #[.pointer (some ⟨Bs, 0, none⟩)] encF (Keep lo w.heap.size) (fun xs => xs.map Fr.key = (scanK p 0).map keyL) (fun pre => pre.map Fr.key <+: (scanK p 0).map keyL) (p.length + 1) w :=
  fun l J Jx W hW hJ hJx hY h0 =>
    scan1_round n hn l Bs lo w.heap.size a c p hl hpc hBl hBw J Jx W hW.size hJ hY ((hW.cell (p := ⟨Bs, 0, none⟩) hBw).trans hBs) (hp.below (Nat.le_refl _) hW) hpb h0

set_option maxRecDepth 100000 in
set_option maxHeartbeats 2000000 in
theorem whole_any (p : List UInt8) (a : Option Addr) (cap : Nat) (w : World) (hp : BytesAt w a p) (hl : p.length ≤ 1000000000) :
    Calls Try.prog 21 #[.slice a p.length cap] w fun e w' => e = .returned (.int .i64 (wholeN p : Int)) ∧ Below w.heap.size w w' := by
  have hb0 : Below w.heap.size w (w.alloc (.cells #[.int .i64 0] 3)) := (Below.refl _ _).alloc (Nat.le_refl _) _
  have h1 := scan_any p a cap (w.alloc (.cells #[.int .i64 0] 3)) (hp.below (Nat.le_refl _) hb0) hl
  have hn := heap_alloc_new w (.cells #[.int .i64 0] 3)
  have hsz : (w.alloc (.cells #[.int .i64 0] 3)).heap.size = w.heap.size + 1 := by simp
  refine (callsIn_wide (n := 3)).1 ?_
  refine callsIn_of_wp_marks Try.func21 rfl trivial ?_ rfl
  simp only [Try.ntmps21, List.size_toArray, List.length_cons, List.length_nil, Nat.reduceAdd, Nat.reduceSub, Array.replicate_succ, Array.replicate_zero, List.push_toArray, List.append_toArray, List.nil_append, List.cons_append]
  gi_wp2_with (refine ⟨trivial, ?_⟩; gi_at_call 20; refine (callsIn_wide.2 h1).mono ?_; rintro e w1 ⟨a1, c1, rfl, ho1, hs1, hb1⟩)
  generalize hw0 : w.alloc (.cells #[.int .i64 0] 3) = w0 at h1 hb0 hn hsz ho1 hs1 hb1 ⊢
  rw [hsz] at ho1 hs1
  have hlt1 := blk_lt hs1
  have hn1 : w1.heap[w.heap.size]? = some (.cells #[.int .i64 0] 3 (0, 0)) := (hb1.block _ (by omega)).trans hn
  have hbw : Below w.heap.size w w1 := hb0.trans (hb1.mono (by omega))
  have hle := hbw.size
  refine wpIn_rangeFunc_ownF (w0 := w1) rfl (by omega) (gf := 38) (lb := #[.pointer (some ⟨w.heap.size + 1, 0, none⟩)]) rfl trivial (enters_of Try.func38 (by kernel_rfl) rfl)
    (scan1_stops 2 (by omega) (w.heap.size + 1) (w.heap.size + 1) a1 c1 p hl ho1.le (Nat.le_refl _) w1 (blk_cell hs1 rfl) ho1.at (fun k hk => by have := ho1.lt k hk; omega) hlt1)
    (fun h k => Keep.trans h k) (fun W l o o' hl' ho _ _ => ⟨by simp [World.putObj], fun k _ hk2 => by rw [World.putObj]; simp; rw [Array.getElem?_setIfInBounds_ne (by omega)]⟩) (Below.refl _ _) (fun _ => rfl)
    (fun pre W => (W.heap[w.heap.size]? = some (.cells #[.int .i64 (lastW (pre.map Fr.key))] 3 (0, 0))) ∧ Below w.heap.size w W)
    (fun _ _ _ => False)
    ?hI
    (fun _ _ _ _ _ hs _ _ => hs)
    ⟨hn1, hbw⟩
    (fun x => { tmps := #[.slice a p.length cap, undef, .int .i64 0, .pointer (some ⟨w.heap.size, 0, none⟩), .int .i64 (x.at_ : Int), .slice x.a x.n x.c, .slice a p.length cap, .func (.func 38) #[] #[.pointer (some ⟨w.heap.size + 1, 0, none⟩)], .int .i64 (x.at_ : Int), .slice x.a x.n x.c, undef, undef, undef, undef, undef, undef], defers := [] }) ?assign ?body ?done ?stop
  case hI =>
    rintro s A B row ⟨h1, h2⟩ hg hr
    exact ⟨(hg.block w.heap.size (blk_lt h1) (fun e => by have := (hr _ e.symm).1; omega)).trans h1, below_grown h2 hg (fun k hk => by have := (hr k hk).1; omega) (Nat.le_refl _)⟩
  case assign =>
    intro l x W K hK
    simp only [encF]
    gi_wp2
    exact hK
  case body =>
    rintro l pre x W ⟨hc, hB⟩ _
    have hcell := blk_cell hc (i := 0) rfl
    have hfr : W.frozen? ⟨w.heap.size, 0, none⟩ = false := blk_free hc
    gi_wp2
    refine ⟨KeepsOthers.setCell _ _ _, ⟨by simp [World.setCell], fun k hk _ => blk_ne (by omega) _⟩, ?_, hB.setCell (p := ⟨w.heap.size, 0, none⟩) (Nat.le_refl _) _⟩
    rw [List.map_append, List.map_cons, List.map_nil, lastW_snoc]
    exact blk_set hc _
  case done =>
    rintro D ys W hD hS ⟨hc, hB⟩ hK
    have hcell := blk_cell hc (i := 0) rfl
    gi_wp2
    rw [lastW_scan p hl]
    refine ⟨by simp, .inl ⟨_, _, rfl, run_takeDeferred hK, ?_⟩⟩
    exact ⟨_, results_tmp rfl _ _ _, rfl, hB.trans (belowK_b (w := w) (Nat.le_refl _) W D _ _ (by omega) hK rfl rfl)⟩
  case stop =>
    rintro D c pre W _ _ h _
    exact h.elim
end Go.Proofs.Ytggnjgnjgnlchaa
