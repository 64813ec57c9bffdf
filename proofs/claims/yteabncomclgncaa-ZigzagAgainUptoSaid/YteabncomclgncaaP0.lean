/- Numbers in their words; the plain steps in short. No program in sight. -/
import Derived.WalkKit
import Derived.Test.YteabncomclgncaaK24
namespace Go.Proofs.Yteabncomclgncaa
set_option linter.unusedVariables false
open Go.RowKit
theorem wrap_i64 {x : Int} (h1 : -9223372036854775808 ≤ x) (h2 : x ≤ 9223372036854775807) : IntKind.wrap .i64 x = x := by
  simp only [IntKind.wrap, IntKind.bits, IntKind.signed]
  simp only [Bool.true_and, decide_eq_true_eq, ge_iff_le, show (2 : Int) ^ 64 = 18446744073709551616 by decide, show (2 : Int) ^ (64 - 1) = 9223372036854775808 by decide]
  split <;> omega
theorem wrap_u64 {x : Int} (h1 : 0 ≤ x) (h2 : x < 18446744073709551616) : IntKind.wrap .u64 x = x := by
  simp only [IntKind.wrap, IntKind.bits, IntKind.signed]
  simp
  omega
theorem wrap_u8 {x : Int} (h1 : 0 ≤ x) (h2 : x < 256) : IntKind.wrap .u8 x = x := by
  simp only [IntKind.wrap, IntKind.bits, IntKind.signed]
  simp
  omega
theorem wrap_u8_mod (x : Int) : IntKind.wrap .u8 x = x % 256 := by
  simp only [IntKind.wrap, IntKind.bits, IntKind.signed]
  simp
theorem wrap_u64_mod (x : Int) : IntKind.wrap .u64 x = x % 18446744073709551616 := by
  simp only [IntKind.wrap, IntKind.bits, IntKind.signed]
  simp
section
variable {P : Program} {ops : Array Oper} {Q : Exit → Act → World → Prop} {D : Option DD} {E : Base} {n L : Nat} {τ : List (Nat × AV)} {h : List (Nat × AO)} {F : World → Prop} {rest : List Oper}
  {d : Nat} {ty : TypeId} {ps : String} {af : Array Edge} {gd : Option (Nat × Bool)} {tt : List (Nat × TI)}
/-! the plain steps: what they ask is looked up when they are taken -/
theorem R.zb (htt : TTok P tt) {b : BinOp} {t u : TypeId} {x y : Operand} {v v' : AV} (k : R P ops Q (lookD D []) E n L ((d, v') :: τ) h F rest) (har : arithB b = true := by exact rfl) (ha : act tt (fun l => hk l h) (evA τ) (.binOp b t x y u) = some v := by exact rfl) (hn : Nrm v v' := by first | exact Nrm.w (wrap_i64 (by omega) (by omega)) | exact Nrm.w (wrap_u64 (by omega) (by omega)) | exact Nrm.w (wrap_u8 (by omega) (by omega)) | exact Nrm.refl _)
    (hg : wantA ops ⟨some d, .binOp b t x y u, ty, ps, af, gd⟩ τ = some true := by exact rfl) (hb : (Nat.ble (d + 1) n && lookB D []) = true := by kernel_rfl) : R P ops Q D E n L τ h F (⟨some d, .binOp b t x y u, ty, ps, af, gd⟩ :: rest) := R.nb htt har ha hn hg hb k
theorem R.zu (htt : TTok P tt) {t : TypeId} {x : Operand} {v v' : AV} (k : R P ops Q (lookD D []) E n L ((d, v') :: τ) h F rest) (ha : act tt (fun l => hk l h) (evA τ) (.unOp .neg t x) = some v := by exact rfl) (hn : Nrm v v' := by first | exact Nrm.w (wrap_i64 (by omega) (by omega)) | exact Nrm.w (wrap_u64 (by omega) (by omega)) | exact Nrm.w (wrap_u8 (by omega) (by omega)) | exact Nrm.refl _)
    (hg : wantA ops ⟨some d, .unOp .neg t x, ty, ps, af, gd⟩ τ = some true := by exact rfl) (hb : (Nat.ble (d + 1) n && lookB D []) = true := by kernel_rfl) : R P ops Q D E n L τ h F (⟨some d, .unOp .neg t x, ty, ps, af, gd⟩ :: rest) := R.nu htt ha hn hg hb k
theorem R.zc (htt : TTok P tt) {s t : TypeId} {x : Operand} {v v' : AV} (k : R P ops Q (lookD D []) E n L ((d, v') :: τ) h F rest) (ha : act tt (fun l => hk l h) (evA τ) (.convert s t x) = some v := by exact rfl) (hn : Nrm v v' := by first | exact Nrm.w (wrap_i64 (by omega) (by omega)) | exact Nrm.w (wrap_u64 (by omega) (by omega)) | exact Nrm.w (wrap_u8 (by omega) (by omega)) | exact Nrm.refl _)
    (hg : wantA ops ⟨some d, .convert s t x, ty, ps, af, gd⟩ τ = some true := by exact rfl) (hb : (Nat.ble (d + 1) n && lookB D []) = true := by kernel_rfl) : R P ops Q D E n L τ h F (⟨some d, .convert s t x, ty, ps, af, gd⟩ :: rest) := R.nc htt ha hn hg hb k
theorem R.za (htt : TTok P tt) {t : TypeId} {ti : TI} (k : R P ops Q (actD h D []) E n (L + 1) ((d, .ptr L 0 0 0) :: τ) ((L, .cells (ti.zero.map .raw) t) :: h) F rest) (ht : lk t tt = some ti := by exact rfl) (hg : wantA ops ⟨some d, .alloc t, ty, ps, af, gd⟩ τ = some true := by exact rfl)
    (hb : (Nat.ble (d + 1) n && chainB h D []) = true := by kernel_rfl) : R P ops Q D E n L τ h F (⟨some d, .alloc t, ty, ps, af, gd⟩ :: rest) := R.a htt ht hg hb k
theorem R.zx {t : TypeId} {x : Operand} {v : AV} {xs : List AV} (k : R P ops Q (actD h D []) E n (L + 1) ((d, .ptr L 0 0 0) :: τ) ((L, .cells xs t) :: h) F rest) (hx : evA τ x = some v := by exact rfl) (hc : v.cellsA = some xs := by exact rfl) (hg : wantA ops ⟨some d, .box t x, ty, ps, af, gd⟩ τ = some true := by exact rfl)
    (hb : (Nat.ble (d + 1) n && chainB h D []) = true := by kernel_rfl) : R P ops Q D E n L τ h F (⟨some d, .box t x, ty, ps, af, gd⟩ :: rest) := R.b hx hc hg hb k
theorem R.zl (htt : TTok P tt) {t e len : Nat} {parts : Array (Nat × Operand)} {ti te : TI} {l : List (Nat × AV)} {xs : List AV} (k : R P ops Q (actD h D []) E n (L + 1) ((d, .sl L te.size 0 len len) :: τ) ((L, .cells xs e) :: h) F rest) (ht : lk t tt = some ti := by exact rfl) (hkd : ti.kind = .sl e := by exact rfl) (hte : lk e tt = some te := by exact rfl)
    (hl : evParts (evA τ) parts.toList = some l := by exact rfl) (hx : fillA (fun i => some (i * te.size, te.size)) ((List.replicate len (te.zero.map .raw)).flatten) l = some xs := by exact rfl)
    (hg : wantA ops ⟨some d, .buildSlice t len parts, ty, ps, af, gd⟩ τ = some true := by exact rfl) (hb : (Nat.ble (d + 1) n && chainB h D [] && Nat.beq te.zero.length te.size && Nat.ble (len * te.size) 16777216) = true := by kernel_rfl) :
    R P ops Q D E n L τ h F (⟨some d, .buildSlice t len parts, ty, ps, af, gd⟩ :: rest) := R.li htt ht hkd hte hl hx hg hb k
theorem R.zs (htt : TTok P tt) {t : TypeId} {x y : Operand} {l w0 i c : Nat} {v : AV} {ti : TI} {ys xs zs : List AV} {T : TypeId} (k : R P ops Q (actD h D [l]) E n L τ ((l, .cells zs T) :: h) F rest) (hx : evA τ x = some (.ptr l w0 i c) := by exact rfl) (hy : evA τ y = some v := by exact rfl) (ht : lk t tt = some ti := by exact rfl) (hc : v.cellsA = some ys := by exact rfl)
    (hl : hk l h = some (.cells xs T) := by exact rfl) (hz : spl1 xs (i * w0 + c) ys = zs := by exact rfl) (hg : wantA ops ⟨none, .store t x y, ty, ps, af, gd⟩ τ = some true := by exact rfl) (hb : (Nat.beq ys.length ti.size && Nat.ble (i * w0 + c + ys.length) xs.length && ys.all AV.oneB && chainB h D [l]) = true := by kernel_rfl) :
    R P ops Q D E n L τ h F (⟨none, .store t x y, ty, ps, af, gd⟩ :: rest) := R.st htt hx hy ht hc hl hz hg hb k
theorem R.z (htt : TTok P tt) {op : Op} {v : AV} (k : R P ops Q (lookD D (rdL τ op)) E n L ((d, v) :: τ) h F rest) (ha : act tt (fun l => hk l h) (evA τ) op = some v := by exact rfl) (hg : wantA ops ⟨some d, op, ty, ps, af, gd⟩ τ = some true := by exact rfl)
    (hb : (Nat.ble (d + 1) n && lookB D (rdL τ op) && (rdL τ op).all (fun l => Nat.ble (l + 1) L)) = true := by kernel_rfl) : R P ops Q D E n L τ h F (⟨some d, op, ty, ps, af, gd⟩ :: rest) := R.s htt ha hg hb k
theorem R.zk {op : Op} (k : R P ops Q (skipD h D) E n L ((d, .raw undef) :: τ) h F rest) (hg : wantA ops ⟨some d, op, ty, ps, af, gd⟩ τ = some false := by exact rfl) (hd : Nat.ble (d + 1) n = true := by exact rfl) : R P ops Q D E n L τ h F (⟨some d, op, ty, ps, af, gd⟩ :: rest) := R.k hg hd k
theorem R.zn {op : Op} (k : R P ops Q (skipD h D) E n L τ h F rest) (hg : wantA ops ⟨none, op, ty, ps, af, gd⟩ τ = some false := by exact rfl) : R P ops Q D E n L τ h F (⟨none, op, ty, ps, af, gd⟩ :: rest) := R.k0 hg k
theorem C.zt {c : Operand} {x y : Code} (k : C P x Q E n L τ h F) (hc : evA τ c = some (.raw (.bool true)) := by exact rfl) : C P (.cond c x y) Q E n L τ h F := C.tru hc k
theorem C.zf {c : Operand} {x y : Code} (k : C P y Q E n L τ h F) (hc : evA τ c = some (.raw (.bool false)) := by exact rfl) : C P (.cond c x y) Q E n L τ h F := C.fls hc k
theorem X.zo {id id' : Nat} (k : X Q (.exit id') E n L τ h F) (hne : Nat.beq id' id = false := by exact rfl) : X (Exit.inBlock id Q) (.exit id') E n L τ h F := X.block_other hne k
end
end Go.Proofs.Yteabncomclgncaa
