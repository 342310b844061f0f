/- Lemmas for the claim. -/
import Derived.Orders
import Derived.Laws.Strings
import Derived.Laws.CopyRow
import Derived.Deep.MidRow
import Derived.Laws.AppendOwn
import Derived.Below
import Derived.Deep.LoopGhost
import Derived.Lib.FrozenHead
import Derived.Laws.StructEq
set_option linter.all false
section
namespace Go.PG
noncomputable section
inductive Tree where
 | nd (a : Int) (b c d : ByteArray) (e : List (Int × Int × ByteArray)) (f : List ByteArray) (l m : List Tree)
namespace P
def tun (x : Tree) : Int × ByteArray × ByteArray × ByteArray × List (Int × Int × ByteArray) × List ByteArray × List Tree × List Tree := match x with
 | .nd a b c d e f l m => (a, b, c, d, e, f, l, m)
def tof (x : Int × ByteArray × ByteArray × ByteArray × List (Int × Int × ByteArray) × List ByteArray × List Tree × List Tree) : Tree := .nd x.1 x.2.1 x.2.2.1 x.2.2.2.1 x.2.2.2.2.1 x.2.2.2.2.2.1 x.2.2.2.2.2.2.1 x.2.2.2.2.2.2.2
def cond {α : Type} (b : Bool) (x y : α) : α := Bool.rec (motive := fun _ => α) y x b
def bind {α β : Type} (x : Option α) (f : α → Option β) : Option β := Option.rec (motive := fun _ => Option β) none f x
def map {α β : Type} (f : α → β) (x : Option α) : Option β := match x with
 | some a => some (f a)
 | none => none
def iter {τ ρ : Type} (k : Nat) (f : τ → Option (τ ⊕ ρ)) (x : τ) : Option ρ :=
 Nat.rec (motive := fun _ => τ → Option ρ) (fun _ => none) (fun _ ih x => Option.rec (motive := fun _ => Option ρ) none (fun s => Sum.rec (motive := fun _ => Option ρ) ih some s) (f x)) k x
def either {α β γ : Type} (f : α → γ) (g : β → γ) (s : α ⊕ β) : γ := Sum.rec (motive := fun _ => γ) f g s
def nil (α : Type) : List α := []
def wrap (k : IntKind) (x : Int) : Int := match k with
 | .i64 => match x with
  | .ofNat n => match Nat.blt n 9223372036854775808 with
   | true => x
   | false => IntKind.wrap .i64 x
  | .negSucc n => match Nat.blt n 9223372036854775808 with
   | true => x
   | false => IntKind.wrap .i64 x
 | k => k.wrap x
def add (x y : Int) : Int := x + y
def sub (x y : Int) : Int := x - y
def mul (x y : Int) : Int := x * y
def ieq (x y : Int) : Bool := match x, y with
 | .ofNat a, .ofNat b => Nat.beq a b
 | .negSucc a, .negSucc b => Nat.beq a b
 | _, _ => false
def ilt (x y : Int) : Bool := match x, y with
 | .ofNat a, .ofNat b => Nat.blt a b
 | .negSucc a, .negSucc b => Nat.blt b a
 | .negSucc _, .ofNat _ => true
 | .ofNat _, .negSucc _ => false
def ile (x y : Int) : Bool := match x, y with
 | .ofNat a, .ofNat b => Nat.ble a b
 | .negSucc a, .negSucc b => Nat.ble b a
 | .negSucc _, .ofNat _ => true
 | .ofNat _, .negSucc _ => false
def imax (x y : Int) : Int := match decide (x < y) with
 | true => y
 | false => x
def shr (x : Int) (n : Nat) : Int := x.fdiv (2 ^ n)
def not (x : Bool) : Bool := !x
def and (x y : Bool) : Bool := x && y
def beq (x y : Bool) : Bool := x == y
def eqL (l m : List UInt8) : Bool := List.rec (motive := fun _ => List UInt8 → Bool) (fun m => match m with
 | [] => true
 | _ :: _ => false) (fun a _ ih m => match m with
 | [] => false
 | b :: m => match Nat.beq a.toNat b.toNat with
  | true => ih m
  | false => false) l m
def seq (x y : ByteArray) : Bool := eqL x.data.toList y.data.toList
def nth {α : Type} (l : List α) (n : Nat) (d : α) : α := List.rec (motive := fun _ => Nat → α) (fun _ => d) (fun a _ ih n => Nat.rec (motive := fun _ => α) a (fun m _ => ih m) n) l n
def slt (x y : ByteArray) : Bool := Op.bytesLess x.toList y.toList
def sle (x y : ByteArray) : Bool := Op.bytesLess x.toList y.toList || x.toList == y.toList
def scat (x y : ByteArray) : ByteArray := ⟨(x.data.toList ++ y.data.toList).toArray⟩
theorem scat_eq (x y : ByteArray) : scat x y = x ++ y := by
 apply ByteArray.ext
 simp [scat]
def slen (x : ByteArray) : Int := (x.size : Int)
def enc (l : List UInt8) : Nat := List.rec (motive := fun _ => Nat) 0 (fun a _ ih => Nat.add a.toNat (Nat.mul 256 ih)) l
def dec (c n : Nat) : List UInt8 := Nat.rec (motive := fun _ => Nat → List UInt8) (fun _ => []) (fun _ ih c => UInt8.ofNat (Nat.mod c 256) :: ih (Nat.div c 256)) n c
def ssub (x : ByteArray) (l u : Int) : ByteArray := match Nat.ble u.toNat x.data.toList.length with
 | true => ⟨⟨dec (Nat.div (enc x.data.toList) (Nat.pow 256 l.toNat)) (Nat.sub u.toNat l.toNat)⟩⟩
 | false => x.extract l.toNat u.toNat
def sat (x : ByteArray) (i : Int) : Int := .ofNat (Nat.mod (Nat.div (enc x.data.toList) (Nat.pow 256 i.toNat)) 256)
def len {α : Type} (l : List α) : Int := (l.length : Int)
def get {α : Type} (l : List α) (i : Int) (d : α) : α := nth l i.toNat d
def set {α : Type} (l : List α) (i : Int) (x : α) : List α := l.set i.toNat x
def app {α : Type} (l m : List α) : List α := l ++ m
def quo (x y : Int) : Int := x.tdiv y
def rem (x y : Int) : Int := x.tmod y
def shlk (k : IntKind) (x y : Int) : Int := x * 2 ^ min y.toNat k.bits
def shrk (k : IntKind) (x y : Int) : Int := x.fdiv (2 ^ min y.toNat k.bits)
def sfit (x y : ByteArray) : Bool := Nat.ble (x.size + y.size) 9223372036854775807
def fill {α : Type} (l : List α) (a n : Int) (z : α) : List α := l.take a.toNat ++ List.replicate n.toNat z ++ l.drop (a.toNat + n.toNat)
def rep {α : Type} (n : Int) (z : α) : List α := List.replicate n.toNat z
def insAt {α : Type} (l : List α) (n : Int) (ys : List α) : List α := l.take n.toNat ++ ys ++ l.drop n.toNat
def delAt {α : Type} (l : List α) (i j : Int) : List α := l.take i.toNat ++ l.drop j.toNat
def sub_ {α : Type} (l : List α) (a b : Int) : List α := (l.take b.toNat).drop a.toNat
def mhas {α β : Type} (f : α → α → Bool) : List (α × β) → α → Bool
 | [], _ => false
 | p :: r, k => match f k p.1 with
  | true => true
  | false => mhas f r k
def mval {α β : Type} (f : α → α → Bool) : List (α × β) → α → β → β
 | [], _, z => z
 | p :: r, k, z => match f k p.1 with
  | true => p.2
  | false => mval f r k z
def mput {α β : Type} (f : α → α → Bool) : List (α × β) → α → β → List (α × β)
 | [], k, v => [(k, v)]
 | p :: r, k, v => match f k p.1 with
  | true => (k, v) :: r
  | false => p :: mput f r k v
def mdel {α β : Type} (f : α → α → Bool) : List (α × β) → α → List (α × β)
 | [], _ => []
 | p :: r, k => match f k p.1 with
  | true => r
  | false => p :: mdel f r k
def dget {α β : Type} (f : α → α → Bool) : List (α × Option (List β)) → α → Option (List β)
 | [], _ => some []
 | p :: r, k => match f k p.1 with
  | true => p.2
  | false => dget f r k
def dtake {α β : Type} (f : α → α → Bool) : List (α × Option (List β)) → α → List (α × Option (List β))
 | [], _ => []
 | p :: r, k => match f k p.1 with
  | true => (p.1, none) :: r
  | false => p :: dtake f r k
def dent {α β : Type} (l : List (α × Option (List β))) (i : Int) : Option (List β) := match l[i.toNat]? with
 | some p => p.2
 | none => none
def dhole {α β : Type} (l : List (α × Option (List β))) (i : Int) (z : α) : List (α × Option (List β)) := l.set i.toNat (z, none)
def dgive {α β : Type} (l : List (α × Option (List β))) (i : Int) (z : α) (y : List β) : List (α × Option (List β)) := l.set i.toNat (z, some y)
def dall {α β : Type} : List (α × Option (List β)) → Option (List (List β))
 | [] => some []
 | p :: r => match p.2, dall r with
  | some y, some l => some (y :: l)
  | _, _ => none
def tget {α β γ : Type} (l : List ((List α × β) × γ)) (i : Int) (d : List α × β) : List α × β := match l[i.toNat]? with
 | some p => p.1
 | none => d
def tput {α β γ : Type} (l : List ((List α × β) × Option γ)) (i : Int) (ys : List α) (d : List α × β) : List ((List α × β) × Option γ) := l.set i.toNat ((ys, (tget l i d).2), none)
def twrap {α β γ : Type} (xs : List (List α × β)) : List ((List α × β) × Option γ) := xs.map fun x => (x, none)
def tres {α β γ : Type} (b : Bool) (n : Int) (l : List ((List α × β) × γ)) (ys : List α) (d : List α × β) : List (List α × β) := match b with
 | true => match ile 0 n with
  | true => (l.map fun p => p.1).set n.toNat (ys, (tget l n d).2)
  | false => l.map fun p => p.1
 | false => l.map fun p => p.1
def inb (i n : Int) : Bool := match i, n with
 | .ofNat a, .ofNat b => Nat.blt a b
 | _, _ => false
def amb {α : Type} (x y : Option α) : Option α := @ite _ (x = y) (Classical.propDecidable _) x none
def cut (l u n : Int) : Bool := match l, u, n with
 | .ofNat a, .ofNat b, .ofNat c => match Nat.ble a b with
  | true => Nat.ble b c
  | false => false
 | _, _, _ => false
def room (n : Int) (bytes : Nat) : Bool := Nat.ble (n.toNat * bytes) 140737488355328
end P
theorem P.cond_def {α : Type} (b : Bool) (x y : α) : P.cond b x y = match b with
 | true => x
 | false => y := by cases b <;> rfl
theorem P.bind_def {α β : Type} (x : Option α) (f : α → Option β) : P.bind x f = match x with
 | some a => f a
 | none => none := by cases x <;> rfl
theorem P.either_def {α β γ : Type} (f : α → γ) (g : β → γ) (s : α ⊕ β) : P.either f g s = match s with
 | .inl a => f a
 | .inr b => g b := by cases s <;> rfl
theorem ble_dec (a b : Nat) : Nat.ble a b = decide (a ≤ b) := by
 cases h : Nat.ble a b with
 | true => simp [Nat.le_of_ble_eq_true h]
 | false =>
  have : ¬ a ≤ b := fun q => by rw [Nat.ble_eq_true_of_le q] at h; cases h
  simp [this]
theorem blt_dec (a b : Nat) : Nat.blt a b = decide (a < b) := ble_dec (a + 1) b
theorem P.wrap_fit {x : Int} (h0 : -9223372036854775808 ≤ x) (h1 : x < 9223372036854775808) : IntKind.i64.wrap x = x := by
 simp only [IntKind.wrap, IntKind.bits, IntKind.signed]
 simp
 omega
theorem P.wrap_def (k : IntKind) (x : Int) : P.wrap k x = k.wrap x := by
 cases k <;> try rfl
 cases x with
 | ofNat n =>
  simp only [P.wrap, blt_dec]
  by_cases h : n < 9223372036854775808
  ·simp only [h, decide_true]
   exact (P.wrap_fit (by simp only [Int.ofNat_eq_natCast]; omega) (by simp only [Int.ofNat_eq_natCast]; omega)).symm
  ·simp only [h, decide_false]
 | negSucc n =>
  simp only [P.wrap, blt_dec]
  by_cases h : n < 9223372036854775808
  ·simp only [h, decide_true]
   exact (P.wrap_fit (by omega) (by omega)).symm
  ·simp only [h, decide_false]
theorem beq_dec (a b : Nat) : Nat.beq a b = decide (a = b) := by
 cases h : Nat.beq a b with
 | true => simp [Nat.eq_of_beq_eq_true h]
 | false => simp [Nat.ne_of_beq_eq_false h]
theorem P.ieq_def (x y : Int) : P.ieq x y = (x == y) := by
 rw [show (x == y) = decide (x = y) from rfl]
 cases x with
 | ofNat a => cases y with
  | ofNat b => simp only [P.ieq, beq_dec, decide_eq_decide, Int.ofNat_eq_natCast]; omega
  | negSucc b => simp [P.ieq]
 | negSucc a => cases y with
  | ofNat b => simp [P.ieq]
  | negSucc b => simp only [P.ieq, beq_dec, decide_eq_decide]; omega
theorem P.ilt_def (x y : Int) : P.ilt x y = decide (x < y) := by
 cases x with
 | ofNat a => cases y with
  | ofNat b => simp only [P.ilt, blt_dec, decide_eq_decide, Int.ofNat_eq_natCast]; omega
  | negSucc b => simp only [P.ilt]; symm; rw [decide_eq_false_iff_not]; simp only [Int.ofNat_eq_natCast]; omega
 | negSucc a => cases y with
  | ofNat b => simp only [P.ilt]; symm; rw [decide_eq_true_eq]; simp only [Int.ofNat_eq_natCast]; omega
  | negSucc b => simp only [P.ilt, blt_dec, decide_eq_decide]; omega
theorem P.ile_def (x y : Int) : P.ile x y = decide (x ≤ y) := by
 cases x with
 | ofNat a => cases y with
  | ofNat b => simp only [P.ile, ble_dec, decide_eq_decide, Int.ofNat_eq_natCast]; omega
  | negSucc b => simp only [P.ile]; symm; rw [decide_eq_false_iff_not]; simp only [Int.ofNat_eq_natCast]; omega
 | negSucc a => cases y with
  | ofNat b => simp only [P.ile]; symm; rw [decide_eq_true_eq]; simp only [Int.ofNat_eq_natCast]; omega
  | negSucc b => simp only [P.ile, ble_dec, decide_eq_decide]; omega
theorem P.eqL_def (l m : List UInt8) : P.eqL l m = (l == m) := by
 induction l generalizing m with
 | nil => cases m <;> rfl
 | cons a l ih =>
  cases m with
  | nil => rfl
  | cons b m =>
   show (match Nat.beq a.toNat b.toNat with
    | true => P.eqL l m
    | false => false) = _
   rw [List.cons_beq_cons]
   cases h : Nat.beq a.toNat b.toNat with
   | true =>
    have := UInt8.toNat_inj.1 (Nat.eq_of_beq_eq_true h)
    subst this
    simp [ih]
   | false =>
    have : a ≠ b := fun q => Nat.ne_of_beq_eq_false h (by rw [q])
    simp [this]
theorem P.seq_def (x y : ByteArray) : P.seq x y = (x.data.toList == y.data.toList) := P.eqL_def _ _
theorem P.nth_def {α : Type} (l : List α) (n : Nat) (d : α) : P.nth l n d = l.getD n d := by
 induction l generalizing n with
 | nil => simp [P.nth]
 | cons a l ih =>
  cases n with
  | zero => rfl
  | succ n =>
   show P.nth l n d = _
   rw [ih n]
   rfl
theorem P.get_def {α : Type} (l : List α) (i : Int) (d : α) : P.get l i d = l.getD i.toNat d := P.nth_def _ _ _
theorem P.enc_cons (a : UInt8) (l : List UInt8) : P.enc (a :: l) = a.toNat + 256 * P.enc l := rfl
theorem P.enc_drop : ∀ (l : List UInt8) (n : Nat), P.enc l / 256 ^ n = P.enc (l.drop n) := by
 intro l
 induction l with
 | nil => intro n; simp [P.enc]
 | cons a l ih =>
  intro n
  cases n with
  | zero => simp
  | succ n =>
   rw [List.drop_succ_cons, ← ih n, P.enc_cons, Nat.pow_succ', ← Nat.div_div_eq_div_mul]
   congr 1
   have := a.toNat_lt
   omega
theorem P.dec_enc : ∀ (n : Nat) (l : List UInt8), n ≤ l.length → P.dec (P.enc l) n = l.take n := by
 intro n
 induction n with
 | zero => intro l _; rfl
 | succ n ih =>
  intro l h
  cases l with
  | nil => simp at h
  | cons a l =>
   show UInt8.ofNat (P.enc (a :: l) % 256) :: P.dec (P.enc (a :: l) / 256) n = _
   have := a.toNat_lt
   have e1 : P.enc (a :: l) % 256 = a.toNat := by rw [P.enc_cons]; omega
   have e2 : P.enc (a :: l) / 256 = P.enc l := by rw [P.enc_cons]; omega
   rw [e1, e2, ih l (by simpa using h), List.take_succ_cons]
   simp
theorem P.sat_def (x : ByteArray) (i : Int) : P.sat x i = Int.ofNat (x.data.toList.getD i.toNat 0).toNat := by
 show Int.ofNat (P.enc x.data.toList / 256 ^ i.toNat % 256) = _
 rw [P.enc_drop]
 congr 1
 rw [List.getD_eq_getElem?_getD, ← List.head?_drop]
 cases x.data.toList.drop i.toNat with
 | nil => simp [P.enc]
 | cons a l =>
  have := a.toNat_lt
  rw [P.enc_cons]
  simp only [List.head?_cons, Option.getD_some]
  omega
theorem P.ssub_def (x : ByteArray) (l u : Int) : P.ssub x l u = x.extract l.toNat u.toNat := by
 unfold P.ssub
 rw [ble_dec]
 by_cases h : u.toNat ≤ x.data.toList.length
 ·simp only [h, decide_true]
  apply ByteArray.ext
  apply Array.toList_inj.1
  show P.dec (P.enc x.data.toList / 256 ^ l.toNat) (u.toNat - l.toNat) = _
  rw [P.enc_drop, P.dec_enc _ _ (by rw [List.length_drop]; omega)]
  simp [List.extract_eq_take_drop]
 ·simp only [h, decide_false]
theorem P.inb_def (i n : Int) : P.inb i n = (decide (0 ≤ i) && decide (i < n)) := by
 rw [Bool.eq_iff_iff]
 simp only [Bool.and_eq_true, decide_eq_true_eq]
 cases i with
 | ofNat a => cases n with
  | ofNat b => simp only [P.inb, blt_dec, decide_eq_true_eq, Int.ofNat_eq_natCast]; omega
  | negSucc b => simp only [P.inb, Int.ofNat_eq_natCast, Bool.false_eq_true, false_iff]; omega
 | negSucc a => simp only [P.inb, Bool.false_eq_true, false_iff]; omega
theorem P.cut_def (l u n : Int) : P.cut l u n = (decide (0 ≤ l) && decide (l ≤ u) && decide (u ≤ n)) := by
 rw [Bool.eq_iff_iff]
 simp only [Bool.and_eq_true, decide_eq_true_eq]
 cases l with
 | negSucc a => simp only [P.cut, Bool.false_eq_true, false_iff]; omega
 | ofNat a => cases u with
  | negSucc b => simp only [P.cut, Bool.false_eq_true, false_iff, Int.ofNat_eq_natCast]; omega
  | ofNat b => cases n with
   | negSucc c => simp only [P.cut, Bool.false_eq_true, false_iff, Int.ofNat_eq_natCast]; omega
   | ofNat c =>
    simp only [P.cut, ble_dec, Int.ofNat_eq_natCast]
    by_cases h : a ≤ b
    ·simp only [h, decide_true, decide_eq_true_eq]; omega
    ·simp only [h, decide_false, Bool.false_eq_true, false_iff]; omega
theorem P.room_def (n : Int) (bytes : Nat) : P.room n bytes = decide (n.toNat * bytes ≤ 140737488355328) := ble_dec _ _
inductive Ty where
 | unit | bool | str | opq | int (k : IntKind) | slice (e : Ty) | st (b : Ty) | pair (a b : Ty)
 /-- what a map's block bears; what a strings.Builder bears -/
 | map (k v : Ty) | bld (T e : Nat)
 /-- what a map's block bears whose elements are slices of its own; an element may be lent -/
 | dmap (k v : Ty)
 /-- an element of a slice of a type that leads back to itself -/
 | slf
 deriving DecidableEq
@[reducible] def Ty.D : Ty → Type
 | .unit | .opq => Unit
 | .bool => Bool
 | .str => ByteArray
 | .int _ => Int
 | .slice e => List e.D
 | .st b => b.D
 | .pair a b => a.D × b.D
 | .map k v => List (k.D × v.D)
 | .bld _ _ => ByteArray
 | .dmap k v => List (k.D × Option (List v.D))
 | .slf => Tree
@[reducible] def slfB : Ty := .pair (.int .i64) (.pair .str (.pair .str (.pair .str (.pair (.slice (.st (.pair (.int .i64) (.pair (.int .i64) .str)))) (.pair (.slice .str) (.pair (.slice .slf) (.slice .slf)))))))
def Ty.size : Ty → Nat
 | .unit => 0
 | .slf => 8
 | .st b => b.size
 | .pair a b => a.size + b.size
 | _ => 1
def Ty.zero : (t : Ty) → t.D
 | .unit | .opq => ()
 | .bool => false
 | .str => ⟨#[]⟩
 | .int _ => (0 : Int)
 | .slice _ => []
 | .st b => b.zero
 | .pair a b => (a.zero, b.zero)
 | .map _ _ => []
 | .bld _ _ => ⟨#[]⟩
 | .dmap _ _ => []
 | .slf => P.tof (0, ⟨#[]⟩, ⟨#[]⟩, ⟨#[]⟩, [], [], [], [])
def Ty.un : Ty → Ty
 | .slf => .st slfB
 | t => t
def unD : (t : Ty) → t.D → t.un.D
 | .slf, x => P.tun x
 | .unit, x | .opq, x | .bool, x | .str, x | .int _, x | .slice _, x | .st _, x | .pair _ _, x | .map _ _, x | .bld _ _, x | .dmap _ _, x => x
def ofD : (t : Ty) → t.un.D → t.D
 | .slf, x => P.tof x
 | .unit, x | .opq, x | .bool, x | .str, x | .int _, x | .slice _, x | .st _, x | .pair _ _, x | .map _ _, x | .bld _ _, x | .dmap _ _, x => x
def Ty.plain : Ty → Bool
 | .map _ _ | .bld _ _ | .dmap _ _ | .pair _ _ | .slf => false
 | _ => true
def keyEq : (t : Ty) → Option (t.D → t.D → Bool)
 | .bool => some fun x y => P.beq x y
 | .int _ => some fun x y => P.ieq x y
 | .str => some fun x y => P.seq x y
 | .st b => keyEq b
 | .pair a b => match keyEq a, keyEq b with
  | some f, some g => some fun x y => P.and (f x.1 y.1) (g x.2 y.2)
  | _, _ => none
 | _ => none
def Ty.nth : Ty → Nat → Option Ty
 | .pair a _, 0 => some a
 | .pair _ r, j + 1 => r.nth j
 | t, 0 => some t
 | _, _ + 1 => none
def Ty.off : Ty → Nat → Nat
 | .pair a r, j + 1 => a.size + r.off j
 | _, _ => 0
def compD : (b : Ty) → Nat → b.D → Option (Σ t : Ty, t.D)
 | .pair a _, 0, x => some ⟨a, x.1⟩
 | .pair _ r, j + 1, x => compD r j x.2
 | t, 0, x => some ⟨t, x⟩
 | _, _ + 1, _ => none
def updD : (b : Ty) → Nat → b.D → (t : Ty) → t.D → Option b.D
 | .pair a _, 0, x, t, y => if h : t = a then some (h ▸ y, x.2) else none
 | .pair _ r, j + 1, x, t, y => match updD r j x.2 t y with
  | some z => some (x.1, z)
  | none => none
 | t', 0, _, t, y => if h : t = t' then some (h ▸ y) else none
 | _, _ + 1, _, _, _ => none
inductive AV where
 | undef
 | unit
 | data (t : Ty) (x : t.D)
 | nilS (e : Ty)
 | own (id : Nat)
 | ptr (id : Nat) (p : List Nat)
 | rptr (t : Ty) (x : t.D)
 | eptr (id : Nat) (i : Int) (p : List Nat)
 /-- a part of a row: from a place on, of so many -/
 | view (id : Nat) (a n : Int)
 /-- one of the two truth values -/
 | unkB
 /-- a map -/
 | mref (id : Nat)
 /-- a row of slices of its own; the address of one of them -/
 | dref (id : Nat)
 | dptr (id : Nat) (i : Int)
 /-- the address of an element, of so many cells, of a row one of whose elements is tied -/
 | tptr (id : Nat) (i : Int) (s : Nat)
 | fn (f : Nat) (caps : AV)
 | st (b : AV)
 | pr (a b : AV)
 | tup (b : AV)
def compP : AV → Nat → Option AV
 | .pr a _, 0 => some a
 | .pr _ r, j + 1 => compP r j
 | .data t x, j => match compD t j x with
  | some p => some (.data p.1 p.2)
  | none => none
 | x, 0 => some x
 | _, _ + 1 => none
def tupP : AV → Nat → Option AV
 | .pr a _, 0 => some a
 | .pr _ r, j + 1 => tupP r j
 | .unit, _ => none
 | x, 0 => some x
 | _, _ + 1 => none
def AV.comp : AV → Nat → Option AV
 | .data (.st b) x, j => match compD b j x with
  | some p => some (.data p.1 p.2)
  | none => none
 | .st b, j => compP b j
 | _, _ => none
def spread : (b : Ty) → b.D → AV
 | .pair a r, x => .pr (.data a x.1) (spread r x.2)
 | t, x => .data t x
def updS : AV → Nat → AV → Option AV
 | .pr _ r, 0, v => some (.pr v r)
 | .pr a r, j + 1, v => match updS r j v with
  | some z => some (.pr a z)
  | none => none
 | _, 0, v => some v
 | _, _ + 1, _ => none
def updP : AV → Nat → AV → Option AV
 | .pr _ r, 0, v => some (.pr v r)
 | .pr a r, j + 1, v => match updP r j v with
  | some z => some (.pr a z)
  | none => none
 | .data t x, j, .data t' y => match updD t j x t' y with
  | some z => some (.data t z)
  | none => none
 | .data t x, j, v => updS (spread t x) j v
 | _, 0, v => some v
 | _, _ + 1, _ => none
def AV.upd : AV → Nat → AV → Option AV
 | .data (.st b) x, j, .data t y => match updD b j x t y with
  | some z => some (.data (.st b) z)
  | none => none
 | .data (.st b) x, j, v => match updS (spread b x) j v with
  | some z => some (.st z)
  | none => none
 | .st b, j, v => match updP b j v with
  | some z => some (.st z)
  | none => none
 | _, _, _ => none
def AV.get : AV → List Nat → Option AV
 | v, [] => some v
 | v, j :: p => match v.comp j with
  | some u => u.get p
  | none => none
def AV.set : AV → List Nat → AV → Option AV
 | _, [], u => some u
 | v, j :: p, u => match v.comp j with
  | some x => match x.set p u with
   | some y => v.upd j y
   | none => none
  | none => none
def offs : Ty → List Nat → Option (Nat × Ty)
 | t, [] => some (0, t)
 | .st b, j :: p => match b.nth j with
  | some t => match offs t p with
   | some (o, u) => some (b.off j + o, u)
   | none => none
  | none => none
 | _, _ :: _ => none
def fitsT : AV → Ty → Bool
 | .data t _, L => decide (t = L)
 | .st a, .st b => fitsT a b
 | .pr a r, .pair ta tr => match fitsT a ta with
  | true => fitsT r tr
  | false => false
 | .nilS _, .slice _ => true
 | .own _, .slice _ => true
 | .view _ _ _, .slice _ => true
 | .dref _, .slice _ => true
 | .undef, .opq | .undef, .int _ | .undef, .bool | .undef, .str | .undef, .slice _ | .undef, .map _ _ | .undef, .bld _ _ | .undef, .dmap _ _ => true
 | .ptr _ _, .opq | .rptr _ _, .opq | .eptr _ _ _, .opq | .fn _ _, .opq | .mref _, .opq | .dptr _ _, .opq | .tptr _ _ _, .opq => true
 | _, _ => false
def undefOf : Ty → AV
 | .unit => .unit
 | .slf => .pr .undef (.pr .undef (.pr .undef (.pr .undef (.pr .undef (.pr .undef (.pr .undef .undef))))))
 | .st b => .st (undefOf b)
 | .pair a b => .pr (undefOf a) (undefOf b)
 | _ => .undef
inductive Ent where
 | box (v : AV) (L : Ty)
 | row (e : Ty) (xs : List e.D)
 /-- an id that nobody holds yet -/
 | rsv
structure Hp where
 e : Nat → Option Ent
 lk : Nat → Bool
 next : Nat
structure St where
 n : Nat
 fr : Nat → AV
 ro : Nat → Bool
 h : Hp
def set1 {α : Type} (f : Nat → α) (i : Nat) (x : α) : Nat → α := fun j => match Nat.beq j i with
 | true => x
 | false => f j
def Hp.put (h : Hp) (id : Nat) (e : Ent) : Hp := { h with e := set1 h.e id (some e) }
def Hp.kill (h : Hp) (id : Nat) : Hp := { h with e := set1 h.e id none }
def Hp.kills (h : Hp) : List Nat → Hp
 | [] => h
 | i :: l => (h.kill i).kills l
def Hp.new (h : Hp) (e : Ent) : Hp := { e := set1 h.e h.next (some e), lk := h.lk, next := h.next + 1 }
def AV.solid : AV → Bool
 | .undef | .tup _ => false
 | .st b => b.solid
 | .pr a b => match a.solid with
  | true => b.solid
  | false => false
 | _ => true
def AV.owns : AV → List Nat
 | .own id => [id]
 | .view id _ _ => [id]
 | .st b => b.owns
 | .pr a b => a.owns ++ b.owns
 | _ => []
def toD (h : Hp) : AV → (t : Ty) → Option t.D
 | .data t' x, t => if e : t' = t then some (e ▸ x) else none
 | .nilS _, .slice _ => some []
 | .own id, .slice e' => match h.e id with
  | some (.row e xs) => if q : e = e' then some (q ▸ xs) else none
  | _ => none
 | .view id a n, .slice e' => match h.e id with
  | some (.row e xs) => if q : e = e' then some (q ▸ P.sub_ xs a (P.add a n)) else none
  | _ => none
 | .st b, .st tb => toD h b tb
 | .pr a r, .pair ta tr => match toD h a ta with
  | some x => match toD h r tr with
   | some y => some (x, y)
   | none => none
  | none => none
 | .unit, .unit => some ()
 | _, _ => none
def Ty.flat : Ty → Bool
 | .slice _ | .opq | .map _ _ | .bld _ _ | .dmap _ _ | .slf => false
 | .st b => b.flat
 | .pair a b => a.flat && b.flat
 | _ => true
def unlocked (h : Hp) : List Nat → Bool
 | [] => true
 | i :: l => match h.lk i with
  | true => false
  | false => unlocked h l
def freeze {ρ : Type} (h : Hp) (v : AV) (t : Ty) (K : t.D → Hp → Option ρ) : Option ρ :=
 match toD h v t with
 | some x => match unlocked h v.owns with
  | true => K x (h.kills v.owns)
  | false => none
 | none => none
def mkPr : AV → AV → AV
 | .data a x, .data b y => .data (.pair a b) (x, y)
 | a, b => .pr a b
def mkSt : AV → AV
 | .data b x => .data (.st b) x
 | b => .st b
def ofCell : (t : Ty) → Value → Option AV
 | .bool, .bool b => some (.data .bool b)
 | .int k, .int k' n => match decide (k' = k) with
  | true => some (.data (.int k) n)
  | false => none
 | .str, .string s => some (.data .str s)
 | .slice e, .slice none 0 0 => some (.nilS e)
 | .opq, .agg _ => none
 | .opq, .tuple _ => none
 | .opq, _ => some .undef
 | _, _ => none
def ofCells : (t : Ty) → List Value → Option (AV × List Value)
 | .st b, cs => match ofCells b cs with
  | some (a, r) => some (mkSt a, r)
  | none => none
 | .pair a b, cs => match ofCells a cs with
  | some (x, r) => match ofCells b r with
   | some (y, r') => some (mkPr x y, r')
   | none => none
  | none => none
 | t, v :: r => match ofCell t v with
  | some a => some (a, r)
  | none => none
 | _, [] => none
def zeroAV : Ty → AV
 | .unit => .unit
 | .opq => .undef
 | .slice e => .nilS e
 | .st b => mkSt (zeroAV b)
 | .pair a b => mkPr (zeroAV a) (zeroAV b)
 | t => .data t t.zero
def isSt : Ty → Bool
 | .st _ => true
 | _ => false
def constAV (ty : Option Ty) (v : Value) : AV :=
 match ty with
 | some t => match v with
  | .tuple _ => .undef
  | .agg cs => match isSt t with
   | true => match ofCells t cs.toList with
    | some (a, []) => a
    | _ => .undef
   | false => .undef
  | v => match isSt t with
   | true => .undef
   | false => match ofCells t [v] with
    | some (a, []) => a
    | _ => .undef
 | none => match v with
  | .bool b => .data .bool b
  | .int k n => .data (.int k) n
  | .string s => .data .str s
  | _ => .undef
structure Spec where
 a : Ty
 r : Ty
 F : a.D → Option r.D
def argAV : (t : Ty) → t.D → AV
 | .unit, _ => .unit
 | .pair a r, x => .pr (.data a x.1) (argAV r x.2)
 | t, x => .data t x
def argList : (t : Ty) → t.D → List AV
 | .unit, _ => []
 | .pair a r, x => .data a x.1 :: argList r x.2
 | t, x => [.data t x]
inductive Sh where
 | d (t : Ty) | o (e : Ty) | p (a b : Sh) | s (b : Sh)
 /-- a row of slices of its own -/
 | r (e : Ty)
@[reducible] def Sh.D : Sh → Type
 | .d t => t.D
 | .o e => List e.D
 | .r e => List (Ty.D (.st .unit) × Option (List e.D))
 | .p a b => a.D × b.D
 | .s b => b.D
inductive Item where
 | var (t : Nat) (sh : Sh)
 | cel (t : Nat) (p : List Nat) (e : Ty)
 | box (t : Nat) (p : List Nat) (sh : Sh)
@[reducible] def Item.D : Item → Type
 | .var _ sh => sh.D
 | .cel _ _ e => List e.D
 | .box _ _ sh => sh.D
@[reducible] def ItemsD : List Item → Type
 | [] => Unit
 | [i] => i.D
 | i :: j :: r => i.D × ItemsD (j :: r)
structure Hint where
 head : List Item
 scr : List Nat
 out : Option (Nat × List Item)
structure TyRow where
 ty : Ty
 /-- of a slice's element -/
 bytes : Nat
 /-- may be compared by '==' asx a struct -/
 eq : Bool
 /-- an array -/
 arr : Bool
def look {α : Type} : List (Nat × α) → Nat → Option α
 | [], _ => none
 | (j, a) :: l, i => match Nat.beq i j with
  | true => some a
  | false => look l i
structure Maker where
 v : AV
 L : Ty
 f : Nat → AV
structure Inpl where
 e : Ty
 cmp : Nat
 F : List e.D → Option (List e.D)
structure OSpec where
 a : Ty
 e : Ty
 F : a.D → Option (List e.D)
structure Tie where
 sl : Nat
 el : Nat
 e : Ty
 r : Ty
 cv : Nat
 n : Int
 lend : List Nat
structure Env where
 T : List (Nat × TyRow)
 specs : List (Nat × Spec)
 codes : List (Nat × Func × List (Nat × Hint))
 k : Nat
 lays : List (Nat × Maker) := []
 inpl : List (Nat × Inpl) := []
 /-- functions that put elements into a row: the elements' type, and bytes -/
 ins : List (Nat × Ty × Nat) := []
 /-- functions that are stepped into with all else kept asx it is, where an order is drawn -/
 calm : List Nat := []
 /-- maps' types: the key's, the element's -/
 maps : List (Nat × Ty × Ty) := []
 /-- maps' types whose elements are slices of their own: the key's, the slices' elements' -/
 dmaps : List (Nat × Ty × Ty) := []
 /-- strings.Builder's type: the byte's -/
 blds : List (Nat × Nat) := []
 /-- slices' types whose elements are slices of their own: the elements' elements', and a slice's bytes -/
 drows : List (Nat × Ty × Nat) := []
 /-- slots of addresses by which an element is lent, or given back -/
 lend : List Nat := []
 /-- rows one of whose elements is tied to a row of one's own -/
 ties : Option Tie := none
 /-- 0: WriteString; 1: String -/
 bw : List (Nat × Nat) := []
 /-- functions that give rows -/
 ospecs : List (Nat × OSpec) := []
def Env.ty (E : Env) (t : TypeId) : Option Ty := match look E.T t with
 | some r => some r.ty
 | none => none
def eqOk (E : Env) (t : TypeId) : AV → Bool
 | .data (.st b) _ => match look E.T t with
  | some r => match decide (r.ty = .st b) with
   | true => r.eq
   | false => false
  | none => false
 | .data .bool _ => match E.ty t with
  | some .bool => true
  | _ => false
 | _ => true
def isArr (E : Env) (t : TypeId) : Bool := match look E.T t with
 | some r => r.arr
 | none => false
def opnd (ty : Option Ty) (fr : Nat → AV) : Operand → AV
 | .tmp t => fr t
 | .const v => constAV ty v
 | .func f => .fn f .unit
 | .global _ => .undef
def wrapAV (k : IntKind) (x : Int) : AV := .data (.int k) (P.wrap k x)
def beqD : (t : Ty) → t.D → t.D → Option Bool
 | .bool, x, y => some (P.beq x y)
 | .int _, x, y => some (P.ieq x y)
 | .str, x, y => some (P.seq x y)
 | .st b, x, y => beqD b x y
 | .pair a b, x, y => match beqD a x.1 y.1 with
  | some p => match beqD b x.2 y.2 with
   | some q => some (P.and p q)
   | none => none
  | none => none
 | _, _, _ => none
def binAV (op : BinOp) : AV → AV → Option AV
 | .data (.int k) x, .data (.int k') y => match decide (k = k') with
  | true => match op with
   | .add => some (wrapAV k (P.add x y))
   | .sub => some (wrapAV k (P.sub x y))
   | .mul => some (wrapAV k (P.mul x y))
   | .eql => some (.data .bool (P.ieq x y))
   | .neq => some (.data .bool (P.not (P.ieq x y)))
   | .lss => some (.data .bool (P.ilt x y))
   | .leq => some (.data .bool (P.ile x y))
   | .gtr => some (.data .bool (P.ilt y x))
   | .geq => some (.data .bool (P.ile y x))
   | _ => none
  | false => none
 | .data .str x, .data .str y => match op with
  | .eql => some (.data .bool (P.seq x y))
  | .neq => some (.data .bool (P.not (P.seq x y)))
  | .lss => some (.data .bool (P.slt x y))
  | .leq => some (.data .bool (P.sle x y))
  | .gtr => some (.data .bool (P.not (P.sle x y)))
  | .geq => some (.data .bool (P.not (P.slt x y)))
  | _ => none
 | .data .bool x, .data .bool y => match op with
  | .eql => some (.data .bool (P.beq x y))
  | .neq => some (.data .bool (P.not (P.beq x y)))
  | _ => none
 | .data (.st b) x, .data (.st b') y =>
  if h : b' = b then match beqD b x (h ▸ y) with
   | some r => match op with
    | .eql => some (.data .bool r)
    | .neq => some (.data .bool (P.not r))
    | _ => none
   | none => none
  else none
 | _, _ => none
def hardAV (op : BinOp) : AV → AV → Option (Bool × AV)
 | .data (.int k) x, .data (.int k') y => match op with
  | .shl => some (P.ile 0 y, wrapAV k (P.shlk k x y))
  | .shr => some (P.ile 0 y, .data (.int k) (P.shrk k x y))
  | .quo => match decide (k = k') with
   | true => some (P.not (P.ieq y 0), wrapAV k (P.quo x y))
   | false => none
  | .rem => match decide (k = k') with
   | true => some (P.not (P.ieq y 0), .data (.int k) (P.rem x y))
   | false => none
  | _ => none
 | .data .str x, .data .str y => match op with
  | .add => some (P.sfit x y, .data .str (P.scat x y))
  | _ => none
 | _, _ => none
def test {ρ : Type} (b : Bool) (x : Option ρ) : Option ρ := P.cond b x none
def St.put (st : St) (d : Option Tmp) (v : AV) : Option St := match d with
 | none => some st
 | some t => match st.ro t, Nat.blt t st.n with
  | false, true => some { st with fr := set1 st.fr t v }
  | _, _ => none
abbrev Handler := ∀ {ρ : Type}, FuncId → List AV → Hp → (AV → Hp → Option ρ) → Option ρ
def dataTy : Ty → Bool
 | .unit | .opq | .map _ _ | .bld _ _ | .dmap _ _ => false
 | .st b => dataTy b
 | .pair a b => match dataTy a with
  | true => dataTy b
  | false => false
 | _ => true
def fillParts (e : Ty) (h : Hp) : List (Nat × AV) → List e.D → Option (List e.D)
 | [], acc => some acc
 | (i, v) :: r, acc => match toD h v e.un, Nat.blt i acc.length with
  | some x, true => fillParts e h r (acc.set i (ofD e x))
  | _, _ => none
def asInt : AV → Option Int
 | .data (.int _) x => some x
 | _ => none
def argsD (h : Hp) : List AV → Ty → Option AV
 | [], _ => some .unit
 | [_], .pair _ _ => none
 | [_], .unit => none
 | [v], _ => some v
 | v :: r, .pair _ b => match argsD h r b with
  | some x => some (.pr v x)
  | none => none
 | _, _ => none
def resAV : (t : Ty) → t.D → AV
 | .pair a b, x => .tup (spread (.pair a b) x)
 | .unit, _ => .tup .unit
 | t, x => .data t x
def callSpec {ρ : Type} (s : Spec) (args : List AV) (h : Hp) (K : AV → Hp → Option ρ) : Option ρ :=
 match argsD h args s.a with
 | none => none
 | some v => match s.r.flat with
  | true => match toD h v s.a with
   | some x => P.bind (s.F x) fun r => K (resAV s.r r) h
   | none => none
  | false => freeze h v s.a fun x h' => P.bind (s.F x) fun r => K (resAV s.r r) h'
def evOspec {ρ : Type} (s : OSpec) (args : List AV) (h : Hp) (K : AV → Hp → Option ρ) : Option ρ :=
 match argsD h args s.a with
 | none => none
 | some v => freeze h v s.a fun x h' => P.bind (s.F x) fun r => K (.own h'.next) (h'.new (.row s.e r))
def capsList : AV → List AV
 | .unit => []
 | .pr a b => a :: capsList b
 | x => [x]
def capsOf : List AV → AV
 | [] => .unit
 | a :: l => .pr a (capsOf l)
def sliceLen (h : Hp) : AV → Option Int
 | .data (.slice _) xs => some (P.len xs)
 | .data .str s => some (P.slen s)
 | .nilS _ => some 0
 | .own id => match h.e id with
  | some (.row _ xs) => some (P.len xs)
  | _ => none
 | .view id _ n => match h.e id with
  | some (.row _ _) => some n
  | _ => none
 | _ => none
def rowLen (h : Hp) (v : AV) : Option Int := match v with
 | .data .str _ => none
 | v => sliceLen h v
def evAppend {ρ : Type} (bytes : Nat) (e : Ty) (s x : AV) (h : Hp) (K : AV → Hp → Option ρ) : Option ρ :=
 match toD h s (.slice e), s with
 | some xs, .own _ | some xs, .nilS _ | some xs, .view _ _ _ => match toD h x (.slice e) with
  | some ys => match unlocked h (s.owns ++ x.owns) with
   | true => test (P.room (P.add (P.len xs) (P.len ys)) bytes) (K (.own h.next) (((h.kills (s.owns ++ x.owns))).new (.row e (P.app xs ys))))
   | false => none
  | none => none
 | _, _ => none
def evClear {ρ : Type} (e : Ty) (x : AV) (h : Hp) (K : AV → Hp → Option ρ) : Option ρ := match x with
 | .nilS _ => K (.tup .unit) h
 | .view id a n => match h.e id, h.lk id with
  | some (.row e' xs), false => match decide (e = e') with
   | true => K (.tup .unit) (h.put id (.row e' (P.fill xs a n e'.zero)))
   | false => none
  | _, _ => none
 | _ => none
def evZeros {ρ : Type} (bytes : Nat) (e : Ty) (s x : AV) (h : Hp) (K : AV → Hp → Option ρ) : Option ρ := match s, x with
 | .nilS _, .data (.int _) n => match dataTy e with
  | true => test (P.ilt 0 n) (test (P.room n bytes) (K (.own h.next) (h.new (.row e (P.rep n e.zero)))))
  | false => none
 | _, _ => none
def evMap {ρ : Type} (kt vt : Ty) (m k : AV) (h : Hp) (K : Nat → (kt.D → kt.D → Bool) → List (kt.D × vt.D) → kt.D → Option ρ) : Option ρ := match m with
 | .mref id => match h.e id with
  | some (.box c (.map kt' vt')) => match decide (kt' = kt), decide (vt' = vt), toD h c (.map kt vt), keyEq kt, toD h k kt with
   | true, true, some xs, some f, some x => K id f xs x
   | _, _, _, _, _ => none
  | _ => none
 | _ => none
def evDmap {ρ : Type} (kt et : Ty) (m k : AV) (h : Hp) (K : Nat → (kt.D → kt.D → Bool) → List (kt.D × Option (List et.D)) → kt.D → Option ρ) : Option ρ := match m with
 | .mref id => match h.e id with
  | some (.box c (.dmap kt' et')) => match decide (kt' = kt), decide (et' = et), toD h c (.dmap kt et), keyEq kt, toD h k kt with
   | true, true, some xs, some f, some x => match h.lk id with
    | false => K id f xs x
    | true => none
   | _, _, _, _, _ => none
  | _ => none
 | _ => none
abbrev drow (e : Ty) : Ty := .dmap (.st .unit) e
def rowsOf (e : Ty) (h : Hp) (id : Nat) : Option (drow e).D := match h.e id with
 | some (.box c (.dmap _ _)) => toD h c (drow e)
 | _ => none
def Hp.drop (h : Hp) (e : Ty) (id : Nat) : Hp := h.put id (.box .undef (drow e))
def rowOf (e : Ty) (h : Hp) (v : AV) : Option (List e.D) := match toD h v (.slice e), v with
 | some ys, .own _ => match unlocked h v.owns with
  | true => some ys
  | false => none
 | some ys, .nilS _ => some ys
 | _, _ => none
def evBuiltin {ρ : Type} (E : Env) (b : Builtin) (argTypes : Array TypeId) (args : List AV) (h : Hp) (K : AV → Hp → Option ρ) : Option ρ :=
 match b, args with
 | .len, [x] => match argTypes.toList with
  | t :: _ => match E.ty t, x with
   | some .str, .data .str s => K (.data (.int .i64) (P.slen s)) h
   | some (.slice _), .data .str _ => none
   | some (.slice _), x => match sliceLen h x with
    | some n => K (.data (.int .i64) n) h
    | none => none
   | _, _ => none
  | [] => none
 | .append, [s, x] => match argTypes.toList with
  | [t, u] => match E.ty u with
   | some (.slice _) => match look E.T t with
    | some r => match r.ty with
     | .slice e => evAppend r.bytes e s x h K
     | _ => none
    | none => none
   | some (.int _) => match look E.T t with
    | some r => match r.ty with
     | .slice e => evZeros r.bytes e s x h K
     | _ => none
    | none => none
   | _ => none
  | _ => none
 | .clear, [x] => match argTypes.toList with
  | [t] => match E.ty t with
   | some (.slice e) => match dataTy e with
    | true => evClear e x h K
    | false => none
   | _ => none
  | _ => none
 | .cap, [x] => match argTypes.toList with
  | [t] => match E.ty t, x with
   | some (.slice _), .nilS _ => K (.data (.int .i64) 0) h
   | _, _ => none
  | _ => none
 | .delete, [m, k] => match argTypes.toList with
  | t :: _ => match look E.maps t with
   | some (kt, vt) => evMap kt vt m k h fun id f xs x => match h.lk id with
    | false => K (.tup .unit) (h.put id (.box (.data (.map kt vt) (P.mdel f xs x)) (.map kt vt)))
    | true => none
   | none => match look E.dmaps t with
    | some (kt, et) => evDmap kt et m k h fun id f xs x => K (.tup .unit) (h.put id (.box (.data (.dmap kt et) (P.mdel f xs x)) (.dmap kt et)))
    | none => none
  | [] => none
 | .max, [x, y] => match x, y with
  | .data (.int k) n, .data (.int k') m => match decide (k = k') with
   | true => K (.data (.int k) (P.imax n m)) h
   | false => none
  | _, _ => none
 | _, _ => none
def evSlice {ρ : Type} (ty : Option Ty) (x : AV) (lo hi mx : Option AV) (h : Hp) (K : AV → Hp → Option ρ) : Option ρ :=
 match mx with
 | some m => match ty, asInt m, lo.bind asInt, hi.bind asInt with
  | some (.slice e), some 0, some 0, some 0 => match x with
   | .data (.slice _) _ => K (.nilS e) h
   | .nilS _ => K (.nilS e) h
   | .own id => match h.e id with
    | some _ => K (.nilS e) h
    | none => none
   | .view id _ _ => match h.e id with
    | some _ => K (.nilS e) h
    | none => none
   | _ => none
  | _, _, _, _ => none
 | none => match sliceLen h x with
  | none => none
  | some n => match (lo.map asInt).getD (some 0), (hi.map asInt).getD (some n) with
   | some l, some u => test (P.cut l u n) (match ty, x with
    | some (.slice e), .data (.slice e') xs => match decide (e = e') with
     | true => K (.data (.slice e') (P.sub_ xs l u)) h
     | false => none
    | some .str, .data .str s => K (.data .str (P.ssub s l u)) h
    | some (.slice e), .own id => match lo with
     | some _ => match h.e id with
      | some (.row e' _) => match decide (e = e') with
       | true => K (.view id l (P.sub u l)) h
       | false => none
      | _ => none
     | none => match h.e id, h.lk id with
      | some (.row e' xs), false => match decide (e = e') with
       | true => K (.own h.next) ((h.kill id).new (.row e' (P.sub_ xs l u)))
       | false => none
      | _, _ => none
    | some (.slice e), .nilS e' => match decide (e = e') with
     | true => K (.nilS e') h
     | false => none
    | some (.slice e), .view id a _ => match h.e id with
     | some (.row e' _) => match decide (e = e') with
      | true => K (.view id (P.add a l) (P.sub u l)) h
      | false => none
     | _ => none
    | _, _ => none)
   | _, _ => none
def memb (i : Nat) : List Nat → Bool
 | [] => false
 | j :: l => match Nat.beq i j with
  | true => true
  | false => memb i l
def setD : (t : Ty) → t.D → List Nat → (u : Ty) → u.D → Option t.D
 | t, _, [], u, y => if e : u = t then some (e ▸ y) else none
 | .st b, x, j :: p, u, y => match compD b j x with
  | some q => match setD q.1 q.2 p u y with
   | some z => updD b j x q.1 z
   | none => none
  | none => none
 | _, _, _ :: _, _, _ => none
def addPath (ty : TypeId → Option Ty) (s : TypeId) (L : Ty) (p : List Nat) (j : Nat) : Bool := match offs L p with
 | some (_, .st b) => match decide (ty s = some (.st b)), b.nth j with
  | true, some _ => true
  | _, _ => false
 | _ => false
def partTy : Ty → Nat → Option Ty
 | .st b, j => b.nth j
 | _, _ => none
def buildParts (fr : Nat → AV) (L : Ty) : List (Nat × Operand) → AV → Option AV
 | [], v => some v
 | (j, x) :: r, v => match partTy L j with
  | some t => match (opnd (some t) fr x).solid, fitsT (opnd (some t) fr x) t with
   | true, true => match v.upd j (opnd (some t) fr x) with
    | some v' => buildParts fr L r v'
    | none => none
   | _, _ => none
  | none => none
def evIdx {ρ : Type} (v : AV) (n : Int) (h : Hp) (K : AV → Hp → Option ρ) : Nat → Nat → Option ρ
 | 0, _ => none
 | m + 1, j => match v.comp j with
  | some u => P.cond (P.ieq n (Int.ofNat j)) (K u h) (evIdx v n h K m (j + 1))
  | none => none
def Ty.width : Ty → Nat
 | .pair _ r => r.width + 1
 | _ => 1
def evInpl {ρ : Type} (p : Inpl) (args : List AV) (h : Hp) (K : AV → Hp → Option ρ) : Option ρ := match args with
 | [s, .fn c .unit] => match Nat.beq c p.cmp with
  | true => match s with
   | .own id => match h.e id, h.lk id with
    | some (.row e xs), false => if q : e = p.e then P.bind (p.F (q ▸ xs)) fun ys => K (.tup .unit) (h.put id (.row p.e ys)) else none
    | _, _ => none
   | .nilS _ => P.bind (p.F []) fun _ => K (.tup .unit) h
   | _ => none
  | false => none
 | _ => none
def evDel {ρ : Type} (e : Ty) (args : List AV) (h : Hp) (K : AV → Hp → Option ρ) : Option ρ := match args with
 | [.own id, .data (.int .i64) i, .data (.int .i64) j] => match toD h (.own id) (.slice e) with
  | some xs => match unlocked h [id] with
   | true => test (P.cut i j (P.len xs)) (K (.own h.next) ((h.kills [id]).new (.row e (P.delAt xs i j))))
   | false => none
  | none => none
 | _ => none
def insSrc : AV → Option (List Nat)
 | .own id => some [id]
 | .data _ _ => some []
 | _ => none
def meets : List Nat → List Nat → Bool
 | [], _ => false
 | i :: r, l => match memb i l with
  | true => true
  | false => meets r l
def evIns0 {ρ : Type} (e : Ty) (bytes : Nat) (args : List AV) (h : Hp) (K : AV → Hp → Option ρ) : Option ρ := match args with
 | [s, .data (.int .i64) n, y] => match toD h s (.slice e), s with
  | some xs, .own _ | some xs, .nilS _ | some xs, .view _ _ _ => match toD h y (.slice e), insSrc y with
   | some ys, some l => match unlocked h (s.owns ++ l), meets l s.owns with
    | true, false => test (P.ilt 0 (P.len ys)) (test (P.cut 0 n (P.len xs)) (test (P.room (P.add (P.len xs) (P.len ys)) bytes) (K (.own h.next) ((h.kills (s.owns ++ l)).new (.row e (P.insAt xs n ys))))))
    | _, _ => none
   | _, _ => none
  | _, _ => none
 | _ => none
def evIns {ρ : Type} (e : Ty) (bytes : Nat) (args : List AV) (h : Hp) (K : AV → Hp → Option ρ) : Option ρ := match bytes with
 | 0 => evDel e args h K
 | b + 1 => evIns0 e (b + 1) args h K
def nobody : List Nat → Bool
 | [] => true
 | _ => false
def widthAt (L : Ty) (p : List Nat) : Nat := match offs L p with
 | some (_, .st b) => b.width
 | _ => 0
def evPick {ρ : Type} (ty : TypeId → Option Ty) (t : TypeId) (L : Ty) (id : Nat) (p : List Nat) (n : Int) (h : Hp) (K : AV → Hp → Option ρ) : Nat → Nat → Option ρ
 | 0, _ => none
 | m + 1, j => P.cond (P.ieq n (Int.ofNat j)) (match addPath ty t L p j with
  | true => K (.ptr id (p ++ [j])) h
  | false => none) (evPick ty t L id p n h K m (j + 1))
def evBld {ρ : Type} (bl : List (Nat × Nat)) (k : Nat) (args : List AV) (h : Hp) (K : AV → Hp → Option ρ) : Option ρ := match k, args with
 | 0, [.ptr id [], s] => match toD h s .str, h.e id, h.lk id with
  | some y, some (.box c (.bld T e)), false => match toD h c (.bld T e), decide (look bl T = some e) with
   | some x, true => test (P.room (P.add (P.slen x) (P.slen y)) 1) (K (.tup (.pr (.data (.int .i64) (P.slen y)) (.pr .undef .unit))) (h.put id (.box (.data (.bld T e) (P.scat x y)) (.bld T e))))
   | _, _ => none
  | _, _, _ => none
 | 1, [.ptr id []] => match h.e id, h.lk id with
  | some (.box c (.bld T e)), false => match toD h c (.bld T e), decide (look bl T = some e) with
   | some x, true => K (.data .str x) (h.put id (.box (.data (.bld T e) x) (.bld T e)))
   | _, _ => none
  | _, _ => none
 | _, _ => none
def evLookup {ρ : Type} (kt vt : Ty) (f : kt.D → kt.D → Bool) (xs : List (kt.D × vt.D)) (x : kt.D) (ok : Bool) (h : Hp) (K : AV → Hp → Option ρ) : Option ρ := match ok with
 | false => K (.data vt (P.mval f xs x vt.zero)) h
 | true => K (.tup (.pr (.data vt (P.mval f xs x vt.zero)) (.data .bool (P.mhas f xs x)))) h
def isNilC : Operand → Bool
 | .const (.slice none 0 0) => true
 | _ => false
def nilOp : BinOp → Option Bool
 | .eql => some true
 | .neq => some false
 | _ => none
def evOp0 (E : Env) (call : Handler) {ρ : Type} (o : Oper) (st : St) (K : AV → Hp → Option ρ) : Option ρ :=
  let h := st.h
  match o.op with
  | .move x | .assign x => K (opnd (E.ty o.type) st.fr x) h
  | .pick c a b => match opnd none st.fr c with
    | .data .bool t => P.cond t (K (opnd (E.ty o.type) st.fr a) h) (K (opnd (E.ty o.type) st.fr b) h)
    | _ => none
  | .alloc t => match E.ty t with
    | some L => K (.ptr h.next []) (h.new (.box (zeroAV L) L))
    | none => match look E.blds t with
      | some e => K (.ptr h.next []) (h.new (.box (.data (.bld t e) ⟨#[]⟩) (.bld t e)))
      | none => none
  | .makeMap t n => match n, look E.maps t with
    | none, some (kt, vt) => K (.mref h.next) (h.new (.box (.data (.map kt vt) []) (.map kt vt)))
    | none, none => match look E.dmaps t with
      | some (kt, et) => K (.mref h.next) (h.new (.box (.data (.dmap kt et) []) (.dmap kt et)))
      | none => none
    | _, _ => none
  | .lookup t m k ok => match look E.maps t with
    | some (kt, vt) => evMap kt vt (opnd none st.fr m) (opnd (some kt) st.fr k) h fun _ f xs x => evLookup kt vt f xs x ok h K
    | none => match look E.dmaps t, ok with
      | some (kt, et), false => evDmap kt et (opnd none st.fr m) (opnd (some kt) st.fr k) h fun id f xs x => P.bind (P.dget f xs x) fun ys => K (.own h.next) ((h.put id (.box (.data (.dmap kt et) (P.dtake f xs x)) (.dmap kt et))).new (.row et ys))
      | _, _ => none
  | .mapUpdate t m k v => match look E.maps t with
    | some (kt, vt) => evMap kt vt (opnd none st.fr m) (opnd (some kt) st.fr k) h fun id f xs x => match h.lk id, nobody (opnd (some vt) st.fr v).owns, toD h (opnd (some vt) st.fr v) vt with
      | false, true, some y => K .undef (h.put id (.box (.data (.map kt vt) (P.mput f xs x y)) (.map kt vt)))
      | _, _, _ => none
    | none => match look E.dmaps t with
      | some (kt, et) => evDmap kt et (opnd none st.fr m) (opnd (some kt) st.fr k) h fun id f xs x => match rowOf et h (opnd (some (.slice et)) st.fr v) with
        | some ys => K .undef ((h.kills (opnd (some (.slice et)) st.fr v).owns).put id (.box (.data (.dmap kt et) (P.mput f xs x (some ys))) (.dmap kt et)))
        | none => none
      | none => none
  | .insert t m k v => match look E.maps t with
    | some (kt, vt) => evMap kt vt (opnd none st.fr m) (opnd (some kt) st.fr k) h fun id f xs x => match h.lk id, nobody (opnd (some vt) st.fr v).owns, toD h (opnd (some vt) st.fr v) vt with
      | false, true, some y => K .undef (h.put id (.box (.data (.map kt vt) (P.mput f xs x y)) (.map kt vt)))
      | _, _, _ => none
    | none => none
  | .box t x => match E.ty t with
    | some L => match (opnd (some L) st.fr x).solid, fitsT (opnd (some L) st.fr x) L with
      | true, true => K (.ptr h.next []) (h.new (.box (opnd (some L) st.fr x) L))
      | _, _ => none
    | none => none
  | .build t ps => match E.ty t with
    | some (.st b) => match buildParts st.fr (.st b) ps.toList (zeroAV (.st b)) with
      | some v => K v h
      | none => none
    | _ => none
  | .buildSlice t n ps => match E.ty t with
    | some (.slice e) => match fillParts e h (ps.toList.map fun p => (p.1, opnd (some e.un) st.fr p.2)) (List.replicate n e.zero), dataTy e, Nat.ble (n * e.size) 16777216 with
      | some xs, true, true => match memb 1 E.calm with
        | true => match nobody (ps.toList.flatMap fun p => (opnd (some e.un) st.fr p.2).owns) with
          | true => K (.data (.slice e) xs) h
          | false => none
        | false => match unlocked h (ps.toList.flatMap fun p => (opnd (some e.un) st.fr p.2).owns) with
          | true => K (.own h.next) ((h.kills (ps.toList.flatMap fun p => (opnd (some e.un) st.fr p.2).owns)).new (.row e xs))
          | false => none
      | _, _, _ => none
    | _ => none
  | .load t a => match opnd none st.fr a with
    | .rptr u x => match decide (E.ty t = some u) with
      | true => K (.data u x) h
      | false => none
    | .ptr id p => match h.e id with
      | some (.box v L) => match offs L p with
        | some (_, u) => match decide (E.ty t = some u), v.get p with
          | true, some y => K y h
          | _, _ => none
        | none => none
      | _ => none
    | .eptr id i p => match h.e id with
      | some (.row e xs) => match offs e p with
        | some (_, u) => match decide (E.ty t = some u), (AV.data e (P.get xs i e.zero)).get p with
          | true, some y => K y h
          | _, _ => none
        | none => none
      | _ => none
    | _ => none
  | .store t a x => match opnd none st.fr a with
    | .ptr id p => match h.e id, h.lk id with
      | some (.box v L), false => match offs L p with
        | some (_, u) => match decide (E.ty t = some u), (opnd (E.ty t) st.fr x).solid, fitsT (opnd (E.ty t) st.fr x) u with
          | true, true, true => match v.set p (opnd (E.ty t) st.fr x) with
            | some v' => K .undef (h.put id (.box v' L))
            | none => none
          | _, _, _ => none
        | none => none
      | _, _ => none
    | .eptr id i p => match h.e id, h.lk id with
      | some (.row e xs), false => match offs e p with
        | some (_, u) => match decide (E.ty t = some u), memb id (opnd (E.ty t) st.fr x).owns with
          | true, false => freeze h (opnd (E.ty t) st.fr x) u fun y h' =>
            match setD e (P.get xs i e.zero) p u y with
            | some z => K .undef (h'.put id (.row e (P.set xs i z)))
            | none => none
          | _, _ => none
        | none => none
      | _, _ => none
    | _ => none
  | .nilCheck x => match opnd none st.fr x with
    | .ptr id p => match h.e id with
      | some _ => K (.ptr id p) h
      | none => none
    | .rptr t y => K (.rptr t y) h
    | .eptr id i p => match h.e id with
      | some _ => K (.eptr id i p) h
      | none => none
    | .fn f c => K (.fn f c) h
    | .tptr id i s => match h.e id with
      | some _ => K (.tptr id i s) h
      | none => none
    | _ => none
  | .binOp op t x y _ => match isNilC y, nilOp op, E.ty t with
    | true, some b, some (.slice _) => match rowLen h (opnd (E.ty t) st.fr x) with
      | some n => P.cond (P.ilt 0 n) (K (.data .bool (P.not b)) h) (K .unkB h)
      | none => none
    | _, _, _ => match hardAV op (opnd (E.ty t) st.fr x) (opnd (E.ty t) st.fr y) with
    | some (b, v) => test b (K v h)
    | none => match eqOk E t (opnd (E.ty t) st.fr x) with
      | true => match binAV op (opnd (E.ty t) st.fr x) (opnd (E.ty t) st.fr y) with
        | some v => K v h
        | none => none
      | false => none
  | .unOp op _ x => match op, opnd none st.fr x with
    | .not, .data .bool b => K (.data .bool (P.not b)) h
    | .neg, .data (.int k) n => K (wrapAV k (P.sub 0 n)) h
    | _, _ => none
  | .convert s t x => match E.ty s, E.ty t, opnd none st.fr x with
    | some (.int _), some (.int k), .data (.int _) n => K (wrapAV k n) h
    | some .str, some .str, .data .str s => K (.data .str s) h
    | _, _, _ => none
  | .fieldAddr s x j => match isArr E s with
   | true => none
   | false => match opnd none st.fr x with
    | .rptr (.st b) y => match decide (E.ty s = some (.st b)), compD b j y with
      | true, some q => K (.rptr q.1 q.2) h
      | _, _ => none
    | .ptr id p => match h.e id with
      | some (.box _ L) => match addPath E.ty s L p j with
        | true => K (.ptr id (p ++ [j])) h
        | false => none
      | _ => none
    | .eptr id i p => match h.e id with
      | some (.row e _) => match addPath E.ty s e p j with
        | true => K (.eptr id i (p ++ [j])) h
        | false => none
      | _ => none
    | .tptr id i m => match h.e id, E.ty s, Nat.beq j 0 with
      | some _, some (.st _), true => K (.tptr id i m) h
      | _, _, _ => none
    | _ => none
  | .field s x j => match isArr E s with
   | true => none
   | false => match E.ty s with
    | some L => match fitsT (opnd (some L) st.fr x) L, (opnd (some L) st.fr x).comp j with
      | true, some u => K u h
      | _, _ => none
    | none => none
  | .index t x i => match isArr E t with
   | false => match E.ty t, opnd (some .str) st.fr x, opnd none st.fr i with
    | some .str, .data .str s, .data (.int _) n => test (P.inb n (P.slen s)) (K (.data (.int .u8) (P.sat s n)) h)
    | _, _, _ => none
   | true => match E.ty t with
    | some (.st b) => match fitsT (opnd (some (.st b)) st.fr x) (.st b), opnd none st.fr i with
      | true, .data (.int _) n => evIdx (opnd (some (.st b)) st.fr x) n h K b.width 0
      | _, _ => none
    | _ => none
  | .indexAddr t x i => match isArr E t with
   | false => match opnd none st.fr x, opnd none st.fr i with
    | .data (.slice e) xs, .data (.int _) n => match decide (E.ty t = some (.slice e)) with
      | true => test (P.inb n (P.len xs)) (K (.rptr e.un (unD e (P.get xs n e.zero))) h)
      | false => none
    | .own id, .data (.int _) n => match h.e id with
      | some (.row e xs) => match decide (E.ty t = some (.slice e)) with
        | true => test (P.inb n (P.len xs)) (K (.eptr id n []) h)
        | false => none
      | _ => none
    | .view id a m, .data (.int _) n => match h.e id with
      | some (.row e _) => match decide (E.ty t = some (.slice e)) with
        | true => test (P.inb n m) (K (.eptr id (P.add a n) []) h)
        | false => none
      | _ => none
    | _, _ => none
   | true => match opnd none st.fr x, opnd none st.fr i with
    | .ptr id p, .data (.int _) n => match h.e id with
      | some (.box _ L) => evPick E.ty t L id p n h K (widthAt L p) 0
      | _ => none
    | .rptr (.st b) y, .data (.int _) (.ofNat n) => match decide (E.ty t = some (.st b)), compD b n y with
      | true, some q => K (.rptr q.1 q.2) h
      | _, _ => none
    | _, _ => none
  | .slice t x lo hi mx => evSlice (E.ty t) (opnd none st.fr x) (lo.map (opnd none st.fr)) (hi.map (opnd none st.fr)) (mx.map (opnd none st.fr)) h K
  | .makeFunc (.func f) first caps => match first.toList with
    | [] => K (.fn f (capsOf (caps.toList.map (opnd none st.fr)))) h
    | _ => none
  | .extract t j => match opnd none st.fr t with
    | .tup b => match tupP b j with
      | some u => K u h
      | none => none
    | _ => none
  | .call c => match c.callee with
    | .builtin b => evBuiltin E b c.argTypes (c.args.toList.map (opnd none st.fr)) h K
    | .value f => match opnd none st.fr f with
      | .fn g caps =>
        match Nat.beq c.args.toList.length c.argTypes.toList.length with
        | false => none
        | true => match look E.specs g, caps with
          | some s, .unit => callSpec s ((c.args.toList.zip c.argTypes.toList).map fun p => opnd (E.ty p.2) st.fr p.1) h K
          | none, .unit => match look E.inpl g, look E.ins g with
            | some p, _ => evInpl p ((c.args.toList.zip c.argTypes.toList).map fun p => opnd (E.ty p.2) st.fr p.1) h K
            | none, some (e, b) => evIns e b ((c.args.toList.zip c.argTypes.toList).map fun p => opnd (E.ty p.2) st.fr p.1) h K
            | none, none => match look E.bw g with
              | some k => evBld E.blds k ((c.args.toList.zip c.argTypes.toList).map fun p => opnd (E.ty p.2) st.fr p.1) h K
              | none => match look E.ospecs g with
                | some s => evOspec s ((c.args.toList.zip c.argTypes.toList).map fun p => opnd (E.ty p.2) st.fr p.1) h K
                | none => call g ((c.args.toList.zip c.argTypes.toList).map fun p => opnd (E.ty p.2) st.fr p.1) h K
          | _, _ => call g (((c.args.toList.zip c.argTypes.toList).map fun p => opnd (E.ty p.2) st.fr p.1) ++ capsList caps) h K
      | _ => none
    | _ => none
  | _ => none
def isTmpIn (l : List Nat) : Operand → Bool
 | .tmp t => memb t l
 | _ => false
def deepOp0 (E : Env) : Op → Bool
 | .buildSlice t _ _ => (look E.drows t).isSome
 | .indexAddr t _ _ => (look E.drows t).isSome
 | .load _ a => isTmpIn E.lend a
 | .store _ a _ => isTmpIn E.lend a
 | .call c => match c.callee with
  | .builtin .append => match c.argTypes.toList with
   | t :: _ => (look E.drows t).isSome
   | [] => false
  | .builtin .len => match c.argTypes.toList with
   | t :: _ => (look E.drows t).isSome
   | [] => false
  | _ => false
 | _ => false
def evDlit {ρ : Type} (e : Ty) (x : AV) (h : Hp) (K : AV → Hp → Option ρ) : Option ρ := match rowOf e h x with
 | some ys => K (.dref h.next) ((h.kills x.owns).new (.box (.data (drow e) [((), some ys)]) (drow e)))
 | none => none
def evDapp {ρ : Type} (e : Ty) (bytes : Nat) (s x : AV) (h : Hp) (K : AV → Hp → Option ρ) : Option ρ := match s, x with
 | .nilS _, .dref j => match rowsOf e h j, h.lk j with
  | some ys, false => test (P.room (P.len ys) bytes) (K (.dref h.next) ((h.drop e j).new (.box (.data (drow e) ys) (drow e))))
  | _, _ => none
 | .dref i, .dref j => match Nat.beq i j, rowsOf e h i, h.lk i, rowsOf e h j, h.lk j with
  | false, some xs, false, some ys, false => test (P.room (P.add (P.len xs) (P.len ys)) bytes) (K (.dref h.next) (((h.drop e i).drop e j).new (.box (.data (drow e) (P.app xs ys)) (drow e))))
  | _, _, _, _, _ => none
 | _, _ => none
def evDidx {ρ : Type} (e : Ty) (id : Nat) (n : Int) (h : Hp) (K : AV → Hp → Option ρ) : Option ρ := match rowsOf e h id with
 | some xs => test (P.inb n (P.len xs)) (K (.dptr id n) h)
 | none => none
def evDload {ρ : Type} (e : Ty) (id : Nat) (i : Int) (h : Hp) (K : AV → Hp → Option ρ) : Option ρ := match rowsOf e h id, h.lk id with
 | some xs, false => P.bind (P.dent xs i) fun ys => K (.own h.next) ((h.put id (.box (.data (drow e) (P.dhole xs i ())) (drow e))).new (.row e ys))
 | _, _ => none
def evDstore {ρ : Type} (e : Ty) (id : Nat) (i : Int) (x : AV) (h : Hp) (K : AV → Hp → Option ρ) : Option ρ := match rowsOf e h id, h.lk id, rowOf e h x with
 | some xs, false, some ys => K .undef ((h.kills x.owns).put id (.box (.data (drow e) (P.dgive xs i () ys)) (drow e)))
 | _, _, _ => none
def evDeep0 (E : Env) (call : Handler) {ρ : Type} (o : Oper) (st : St) (K : AV → Hp → Option ρ) : Option ρ := match o.op with
 | .buildSlice t n ps => match look E.drows t, n, ps.toList with
  | some (e, _), 1, [(0, x)] => evDlit e (opnd (some (.slice e)) st.fr x) st.h K
  | _, _, _ => none
 | .indexAddr t x i => match look E.drows t, opnd none st.fr x, opnd none st.fr i with
  | some (e, _), .dref id, .data (.int _) n => evDidx e id n st.h K
  | some _, _, _ => evOp0 E call o st K
  | none, _, _ => none
 | .load t a => match E.ty t, opnd none st.fr a with
  | some (.slice e), .dptr id i => evDload e id i st.h K
  | _, _ => none
 | .store t a x => match E.ty t, opnd none st.fr a with
  | some (.slice e), .dptr id i => evDstore e id i (opnd (some (.slice e)) st.fr x) st.h K
  | _, _ => none
 | .call c => match c.callee, c.argTypes.toList, c.args.toList.map (opnd none st.fr) with
  | .builtin .append, [t, u], [s, x] => match look E.drows t, decide (E.ty u = E.ty t) with
   | some (e, bytes), true => evDapp e bytes s x st.h K
   | _, _ => none
  | .builtin .len, t :: _, [.dref id] => match look E.drows t with
   | some (e, _) => match rowsOf e st.h id with
    | some xs => K (.data (.int .i64) (P.len xs)) st.h
    | none => none
   | none => none
  | .builtin .len, _, _ => evOp0 E call o st K
  | _, _, _ => none
 | _ => none
abbrev tieL (e r : Ty) : Ty := .dmap (.st (.pair (.slice e) r)) e
abbrev tieT (e r : Ty) : Ty := .pair (.slice e) (.pair (.int .i64) (.pair .bool (tieL e r)))
def tieV (e r : Ty) (v : AV) (n : Int) (b : Bool) (l : (tieL e r).D) : AV := .pr v (.pr (.data (.int .i64) n) (.pr (.data .bool b) (.data (tieL e r) l)))
def tieOf (e r : Ty) (h : Hp) (id : Nat) : Option (AV × Int × Bool × (tieL e r).D) := match h.e id with
 | some (.box (.pr v (.pr a (.pr c d))) L) => match decide (L = tieT e r), toD h a (.int .i64), toD h c .bool, toD h d (tieL e r) with
  | true, some n, some b, some l => some (v, n, b, l)
  | _, _, _, _ => none
 | _ => none
def tieOp (E : Env) (o : Op) : Bool := match E.ties with
 | none => false
 | some T => match o with
  | .indexAddr t x _ => match Nat.beq t T.sl with
   | true => true
   | false => isTmpIn T.lend x
  | .load t a => match Nat.beq t T.el with
   | true => true
   | false => isTmpIn T.lend a
  | .store _ a _ => isTmpIn T.lend a
  | .fieldAddr _ a _ => isTmpIn T.lend a
  | .call c => match c.callee with
   | .builtin .len => match c.argTypes.toList with
    | t :: _ => Nat.beq t T.sl
    | [] => false
   | .value (.func g) => Nat.beq g T.cv
   | _ => false
  | _ => false
def isConv (E : Env) : Op → Bool
 | .call c => match c.callee with
  | .value _ => match E.ties with
   | some _ => true
   | none => false
  | _ => false
 | _ => false
def evTconv {ρ : Type} (T : Tie) (v : AV) (h : Hp) (K : AV → Hp → Option ρ) : Option ρ := match rowOf (.st (.pair (.slice T.e) T.r)) h v with
 | some xs => K (.dref h.next) ((h.kills v.owns).new (.box (tieV T.e T.r (.nilS T.e) T.n false (P.twrap xs)) (tieT T.e T.r)))
 | none => none
def evTidx {ρ : Type} (e r : Ty) (id : Nat) (n : Int) (h : Hp) (K : AV → Hp → Option ρ) : Option ρ := match tieOf e r h id with
 | some (_, _, _, l) => test (P.inb n (P.len l)) (K (.tptr id n (Ty.st (.pair (.slice e) r)).size) h)
 | none => none
def evTload {ρ : Type} (e r : Ty) (id : Nat) (i : Int) (whole lent : Bool) (h : Hp) (K : AV → Hp → Option ρ) : Option ρ := match tieOf e r h id with
 | some (v, n, b, l) => match whole, lent with
  | true, true => test (P.and b (P.ieq i n)) (K (.st (.pr v (.data r (P.tget l i (Ty.st (.pair (.slice e) r)).zero).2))) h)
  | true, false => test (P.not (P.and b (P.ieq i n))) (K (.data (.st (.pair (.slice e) r)) (P.tget l i (Ty.st (.pair (.slice e) r)).zero)) h)
  | false, true => test (P.and b (P.ieq i n)) (K v h)
  | false, false => none
 | none => none
def evTstore {ρ : Type} (e r : Ty) (id : Nat) (i : Int) (x : AV) (h : Hp) (K : AV → Hp → Option ρ) : Option ρ := match tieOf e r h id, h.lk id, x with
 | some (v, n, b, l), false, .own j => match toD h (.own j) (.slice e), h.lk j, Nat.beq j id with
  | some ys, false, false => P.cond (P.ieq i n) (K .undef (h.put id (.box (tieV e r (.own j) n true l) (tieT e r))))
    (K .undef ((h.kills [j]).put id (.box (tieV e r v n b (P.tput l i ys (Ty.st (.pair (.slice e) r)).zero)) (tieT e r))))
  | _, _, _ => none
 | _, _, _ => none
def evTie (E : Env) (call : Handler) {ρ : Type} (o : Oper) (st : St) (K : AV → Hp → Option ρ) : Option ρ := match E.ties with
 | none => none
 | some T => match o.op with
  | .indexAddr t x i => match opnd none st.fr x, opnd none st.fr i with
   | .dref id, .data (.int _) n => match decide (E.ty t = some (.slice (.st (.pair (.slice T.e) T.r)))) with
    | true => evTidx T.e T.r id n st.h K
    | false => none
   | _, _ => evOp0 E call o st K
  | .load t a => match opnd none st.fr a with
   | .tptr id i s => match Nat.beq s (Ty.st (.pair (.slice T.e) T.r)).size, decide (E.ty t = some (.st (.pair (.slice T.e) T.r))), decide (E.ty t = some (.slice T.e)) with
    | true, true, _ => evTload T.e T.r id i true (isTmpIn T.lend a) st.h K
    | true, false, true => evTload T.e T.r id i false (isTmpIn T.lend a) st.h K
    | _, _, _ => none
   | _ => evOp0 E call o st K
  | .store t a x => match opnd none st.fr a with
   | .tptr id i s => match Nat.beq s (Ty.st (.pair (.slice T.e) T.r)).size, decide (E.ty t = some (.slice T.e)) with
    | true, true => evTstore T.e T.r id i (opnd (some (.slice T.e)) st.fr x) st.h K
    | _, _ => none
   | _ => none
  | .fieldAddr _ _ _ => evOp0 E call o st K
  | .call c => match c.callee, c.args.toList.map (opnd none st.fr) with
   | .builtin .len, [.dref id] => match tieOf T.e T.r st.h id, c.argTypes.toList with
    | some (_, _, _, l), t :: _ => match decide (E.ty t = some (.slice (.st (.pair (.slice T.e) T.r)))) with
     | true => K (.data (.int .i64) (P.len l)) st.h
     | false => none
    | _, _ => none
   | .builtin .len, _ => evOp0 E call o st K
   | .value _, _ => evOp0 E call o st fun v h => evTconv T v h K
   | _, _ => none
  | _ => none
def deepOp (E : Env) (o : Op) : Bool := match tieOp E o with
 | true => true
 | false => deepOp0 E o
def evDeep (E : Env) (call : Handler) {ρ : Type} (o : Oper) (st : St) (K : AV → Hp → Option ρ) : Option ρ := match tieOp E o.op with
 | true => evTie E call o st K
 | false => evDeep0 E call o st K
def evOp (E : Env) (call : Handler) {ρ : Type} (o : Oper) (st : St) (K : AV → Hp → Option ρ) : Option ρ := match deepOp E o.op with
  | true => evDeep E call o st K
  | false => evOp0 E call o st K
def skipOp {ρ : Type} (o : Oper) (st : St) (K : St → Option ρ) : Option ρ := match st.put o.dst (.tup .unit) with
 | some st' => K st'
 | none => none
def doOp (E : Env) (call : Handler) {ρ : Type} (o : Oper) (st : St) (K : St → Option ρ) : Option ρ :=
 evOp E call o st fun v h => match ({ st with h := h } : St).put o.dst v with
  | some st' => K st'
  | none => none
def refine1 (st : St) (t : Nat) (b : Bool) : St := { st with fr := set1 st.fr t (.data .bool b) }
def evOps (E : Env) (call : Handler) {ρ : Type} (all : List Oper) : List Oper → St → (St → Option ρ) → Option ρ
 | [], st, K => K st
 | o :: r, st, K => match o.guard with
  | none => doOp E call o st fun st' => evOps E call all r st' K
  | some (j, want) => match all[j]? with
   | some oj => match oj.dst with
    | some t => match st.fr t with
     | .data .bool b => P.cond b
       (match want with
        | true => doOp E call o (refine1 st t true) fun st' => evOps E call all r st' K
        | false => skipOp o (refine1 st t true) fun st' => evOps E call all r st' K)
       (match want with
        | true => skipOp o (refine1 st t false) fun st' => evOps E call all r st' K
        | false => doOp E call o (refine1 st t false) fun st' => evOps E call all r st' K)
     | .tup .unit => skipOp o st fun st' => evOps E call all r st' K
     | _ => none
    | none => none
   | none => none
def Code.key : Code → Nat
 | .region id _ _ => id
 | .seq a _ => Code.key a
 | .block _ c => Code.key c
 | .loop c => Code.key c
 | _ => 0
def assigned : Code → List Nat
 | .region _ ops _ => ops.toList.filterMap (·.dst)
 | .seq a b => assigned a ++ assigned b
 | .cond _ a b => assigned a ++ assigned b
 | .block _ c => assigned c
 | .loop c => assigned c
 | _ => []
def follow (h : Hp) : List Nat → AV → Option AV
 | [], v => some v
 | j :: p, .fn _ c => match tupP c j with
  | some u => follow h p u
  | none => none
 | j :: p, .ptr id [] => match h.e id with
  | some (.box v _) => match j with
   | 0 => follow h p v
   | j + 1 => match v.comp j with
    | some u => follow h p u
    | none => none
  | _ => none
 | _ :: _, _ => none
def finder (st : St) (t : Nat) (p : List Nat) : Option AV := follow st.h p (st.fr t)
def boxId : AV → Option Nat
 | .ptr id [] => some id
 | .mref id => some id
 | .dref id => some id
 | _ => none
def unSh (h : Hp) : (sh : Sh) → AV → Option (sh.D × List Nat × List Nat)
 | .d t, v => match toD h v t with
  | some x => some (x, [], v.owns)
  | none => none
 | .o e, v => match toD h v (.slice e), v with
  | some xs, .own id => some (xs, [id], [])
  | some xs, .view id _ _ => some (xs, [id], [])
  | some xs, .nilS _ => some (xs, [], [])
  | _, _ => none
 | .r e, .dref id => match rowsOf e h id with
  | some xs => some (xs, [id], [])
  | none => none
 | .r _, .nilS _ => some ([], [], [])
 | .p a b, .pr u v => match unSh h a u with
  | some (x, l, l') => match unSh h b v with
   | some (y, m, m') => some ((x, y), l ++ m, l' ++ m')
   | none => none
  | none => none
 | .s b, .st v => unSh h b v
 | _, _ => none
def packSh : (sh : Sh) → sh.D → Hp → AV × Hp
 | .d t, x, h => (.data t x, h)
 | .o e, xs, h => (.own h.next, h.new (.row e xs))
 | .r e, xs, h => (.dref h.next, h.new (.box (.data (drow e) xs) (drow e)))
 | .p a b, x, h => (.pr (packSh a x.1 h).1 (packSh b x.2 (packSh a x.1 h).2).1, (packSh b x.2 (packSh a x.1 h).2).2)
 | .s b, x, h => (.st (packSh b x h).1, (packSh b x h).2)
def unItem (fr0 : Nat → List Nat → Option AV) (st : St) : (i : Item) → Option (i.D × List Nat × List Nat)
 | .var t sh => unSh st.h sh (st.fr t)
 | .cel t p e => match (fr0 t p) with
  | some (.own id) => match st.h.e id with
   | some (.row e' xs) => if q : e' = e then some (q ▸ xs, [], []) else none
   | _ => none
  | some (.nilS _) => some ([], [], [])
  | _ => none
 | .box t p sh => match (fr0 t p).bind boxId with
  | some id => match st.h.e id with
   | some (.box v _) => unSh st.h sh v
   | _ => none
  | _ => none
def unItems (fr0 : Nat → List Nat → Option AV) (st : St) : (l : List Item) → Option (ItemsD l × List Nat × List Nat)
 | [] => some ((), [], [])
 | [i] => unItem fr0 st i
 | i :: j :: r => match unItem fr0 st i with
  | some (x, l, l') => match unItems fr0 st (j :: r) with
   | some (y, m, m') => some ((x, y), l ++ m, l' ++ m')
   | none => none
  | none => none
def kept1 (fr0 : Nat → List Nat → Option AV) : Item → Option (List Nat)
 | .var _ _ => some []
 | .cel t p _ => match fr0 t p with
  | some (.own id) => some [id]
  | some (.nilS _) => some []
  | _ => none
 | .box t p _ => match (fr0 t p).bind boxId with
  | some id => some [id]
  | _ => none
def kept (fr0 : Nat → List Nat → Option AV) : List Item → Option (List Nat)
 | [] => some []
 | i :: r => match kept1 fr0 i with
  | some l => match kept fr0 r with
   | some m => some (l ++ m)
   | none => none
  | none => none
def scrIds (fr0 : Nat → List Nat → Option AV) : List Nat → Option (List Nat)
 | [] => some []
 | t :: r => match fr0 t [] with
  | some (.ptr id []) => match scrIds fr0 r with
   | some m => some (id :: m)
   | none => none
  | _ => none
def nodup : List Nat → Bool
 | [] => true
 | i :: l => match memb i l with
  | true => false
  | false => nodup l
def subs : List Nat → List Nat → Bool
 | [], _ => true
 | i :: l, m => match memb i m with
  | true => subs l m
  | false => false
def above (n : Nat) : List Nat → Bool
 | [] => true
 | i :: l => match Nat.ble n i with
  | true => above n l
  | false => false
def alive (h h' : Hp) : List Nat → Bool
 | [] => true
 | i :: l => match h.e i with
  | some (.box _ _) => match h'.e i with
   | some (.box _ _) => alive h h' l
   | _ => false
  | _ => alive h h' l
def packItem (fr0 : Nat → List Nat → Option AV) : (i : Item) → i.D → St → Option St
 | .var t sh, x, st => some { st with fr := set1 st.fr t (packSh sh x st.h).1, h := (packSh sh x st.h).2 }
 | .cel t p e, xs, st => match fr0 t p with
  | some (.own id) => some { st with h := st.h.put id (.row e xs) }
  | some (.nilS _) => some st
  | _ => none
 | .box t p sh, x, st => match (fr0 t p).bind boxId with
  | some id => match st.h.e id with
   | some (.box _ L) => match fitsT (packSh sh x st.h).1 L with
    | true => some { st with h := (packSh sh x st.h).2.put id (.box (packSh sh x st.h).1 L) }
    | false => none
   | _ => none
  | _ => none
def packItems (fr0 : Nat → List Nat → Option AV) : (l : List Item) → ItemsD l → St → Option St
 | [], _, st => some st
 | [i], x, st => packItem fr0 i x st
 | i :: j :: r, x, st => match packItem fr0 i x.1 st with
  | some st' => packItems fr0 (j :: r) x.2 st'
  | none => none
def clr (h : Hp) (l : List Nat) : Hp :=
  { e := fun i => match memb i l with
      | true => match h.e i with
        | some (.box _ L) => match fitsT (undefOf L) L with
          | true => some (.box (undefOf L) L)
          | false => none
        | _ => none
      | false => h.e i
    lk := fun i => match memb i l with
      | true => false
      | false => h.lk i
    next := h.next }
def inner (asx : List Nat) (st : St) (c : List Nat) : St :=
  { n := st.n
    fr := fun t => match memb t asx with
      | true => .undef
      | false => st.fr t
    ro := fun t => match memb t asx with
      | true => st.ro t
      | false => true
    h := clr { e := st.h.e, lk := fun i => Nat.blt i st.h.next, next := st.h.next } c }
def outer (st0 st1 : St) : St := { st1 with ro := st0.ro, h := { st1.h with lk := st0.h.lk } }
def again (st b : St) (c : List Nat) (s : St) (l : List Item) : Option (ItemsD l) :=
 match alive b.h s.h c with
 | false => none
 | true => match unItems (finder st) s l, kept (finder st) l with
  | some (z, os, ds), some ks => match nodup (ks ++ (os ++ ds)), subs ks c, unlocked s.h (ks ++ (os ++ ds)), above st.h.next (os ++ ds) with
   | true, true, true, true => some z
   | _, _, _, _ => none
  | _, _ => none
def evLoop {ρ : Type} (k : Nat) (hint : Option Hint) (asx : List Nat) (st : St)
  (body : ∀ {σ : Type}, St → (St → Option σ) → (Nat → St → Option σ) → (St → Option σ) → Option σ)
  (ke : Nat → St → Option ρ) (kr : St → Option ρ) : Option ρ :=
 match hint with
 | none => none
 | some ⟨hd, scr, out⟩ => match scrIds (finder st) scr, kept (finder st) hd, unItems (finder st) st hd with
  | some sc, some ks, some (x, os, ds) => match unlocked st.h (sc ++ ks), unlocked st.h (os ++ ds), nodup (ks ++ (os ++ ds)) with
   | true, true, true =>
    let b := inner asx { st with h := st.h.kills (os ++ ds) } (sc ++ ks)
    match out with
    | none => P.iter k (fun y => match packItems (finder st) hd y b with
      | none => none
      | some s => body s (fun s' => match again st b (sc ++ ks) s' hd with
        | some z => some (Sum.inl z)
        | none => none) (fun i s' => P.map .inr (ke i (outer st s'))) (fun s' => P.map .inr (kr (outer st s')))) x
    | some (i0, tl) => P.bind (P.iter (ρ := ItemsD tl ⊕ ρ) k (fun y => match packItems (finder st) hd y b with
      | none => none
      | some s => body s (fun s' => match again st b (sc ++ ks) s' hd with
        | some z => some (Sum.inl z)
        | none => none)
       (fun i s' => match Nat.beq i i0 with
        | true => match again st b (sc ++ ks) s' tl with
         | some z => some (Sum.inr (Sum.inl z))
         | none => none
        | false => P.map (fun r => .inr (.inr r)) (ke i (outer st s')))
       (fun s' => P.map (fun r => .inr (.inr r)) (kr (outer st s')))) x) (P.either (fun z => match packItems (finder st) tl z b with
       | none => none
       | some s => ke i0 (outer st s)) fun r => some r)
   | _, _, _ => none
  | _, _, _ => none
def isLight0 (E : Env) : Op → Bool
 | .move _ | .assign _ | .pick _ _ _ | .load _ _ | .nilCheck _ | .binOp _ _ _ _ _ | .unOp _ _ _ | .convert _ _ _ | .fieldAddr _ _ _ | .field _ _ _ | .index _ _ _ | .indexAddr _ _ _ | .extract _ _ | .makeFunc _ _ _ | .slice _ _ _ _ _ | .build _ _ | .buildSlice _ _ _ => true
 | .call c => match c.callee with
  | .builtin .len => true
  | .builtin .max => true
  | .value (.func g) => match look E.specs g with
   | some _ => true
   | none => false
  | _ => false
 | _ => false
def isVlen (E : Env) : Op → Bool
 | .call c => match c.callee with
  | .builtin .len => memb 3 E.calm
  | _ => false
 | _ => false
def isLight (E : Env) (o : Op) : Bool := match deepOp E o with
 | true => false
 | false => match isVlen E o with
  | true => false
  | false => isLight0 E o
def makes (E : Env) : Op → Option Maker
 | .call c => match c.callee, c.args.toList with
  | .value (.func g), [] => look E.lays g
  | _, _ => none
 | _ => none
def isAlloc (E : Env) : Op → Bool
 | .alloc _ => true
 | o => match makes E o with
  | some _ => true
  | none => false
def noCall : Handler := fun _ _ _ _ => none
def evLcall {ρ : Type} (E : Env) (c : Call) (st : St) (K : AV → Hp → Option ρ) : Option ρ :=
 match c.callee with
 | .builtin .len => evBuiltin E .len c.argTypes (c.args.toList.map (opnd none st.fr)) st.h K
 | .builtin .max => evBuiltin E .max c.argTypes (c.args.toList.map (opnd none st.fr)) st.h K
 | .value (.func g) => match Nat.beq c.args.toList.length c.argTypes.toList.length, look E.specs g with
  | true, some s => match argsD st.h ((c.args.toList.zip c.argTypes.toList).map fun p => opnd (E.ty p.2) st.fr p.1) s.a with
   | some v => match toD st.h v s.a, (match s.r.flat with | true => true | false => nobody v.owns) with
    | some x, true => P.bind (s.F x) fun r => K (resAV s.r r) st.h
    | _, _ => none
   | none => none
  | _, _ => none
 | _ => none
def evLslice {ρ : Type} (ty : Option Ty) (x : AV) (lo hi mx : Option AV) (h : Hp) (K : AV → Hp → Option ρ) : Option ρ :=
 match x with
 | .own id => match mx, lo with
  | none, some l => evSlice ty (.own id) (some l) hi none h K
  | _, _ => none
 | .view id a n => match mx with
  | none => evSlice ty (.view id a n) lo hi none h K
  | _ => none
 | x => evSlice ty x lo hi mx h K
def evLbs {ρ : Type} (E : Env) (t : TypeId) (n : Nat) (ps : List (Nat × Operand)) (st : St) (K : AV → Hp → Option ρ) : Option ρ :=
 match E.ty t with
 | some (.slice e) => match fillParts e st.h (ps.map fun p => (p.1, opnd (some e.un) st.fr p.2)) (List.replicate n e.zero), dataTy e, Nat.ble (n * e.size) 16777216 with
  | some xs, true, true => match nobody (ps.flatMap fun p => (opnd (some e.un) st.fr p.2).owns) with
   | true => K (.data (.slice e) xs) st.h
   | false => none
  | _, _, _ => none
 | _ => none
def evLight {ρ : Type} (E : Env) (o : Oper) (st : St) (K : AV → Hp → Option ρ) : Option ρ :=
 match o.op with
 | .buildSlice t n ps => evLbs E t n ps.toList st K
 | .call c => evLcall E c st K
 | .slice t x lo hi mx => evLslice (E.ty t) (opnd none st.fr x) (lo.map (opnd none st.fr)) (hi.map (opnd none st.fr)) (mx.map (opnd none st.fr)) st.h K
 | _ => evOp0 E noCall o st K
def free (E : Env) (o : Oper) : Bool := match isLight E o.op with
 | true => true
 | false => isAlloc E o.op
def veiled (E : Env) : Bool := memb 3 E.calm
def Env.veil (E : Env) : Env := { E with calm := 3 :: E.calm }
def Env.lax (E : Env) : Env := { E with calm := 4 :: E.calm }
def insT (E : Env) (g : Nat) : Bool := match E.ties, look E.specs g, look E.inpl g, look E.ins g with
 | some _, none, none, some (_, _ + 1) => true
 | _, _, _, _ => false
def isTame (E : Env) (o : Oper) : Bool := match veiled E with
 | true => match deepOp E o.op, isVlen E o.op with
  | true, _ => match isConv E o.op with
   | true => false
   | false => true
  | _, true => true
  | false, false => match o.op with
  | .lookup _ _ _ _ => true
  | .mapUpdate _ _ _ _ => true
  | .call c => match c.callee with
   | .builtin .append => true
   | .builtin .delete => true
   | .value (.func g) => insT E g
   | _ => false
  | _ => false
 | false => false
def isCalm (E : Env) (o : Oper) : Bool := match free E o, o.guard with
 | false, none => match isTame E o with
  | true => true
  | false => match o.op with
   | .call c => match c.callee with
    | .value (.func g) => memb g E.calm
    | .value (.tmp _) => memb 0 E.calm
    | _ => false
   | _ => false
 | _, _ => false
def veil (h : Hp) : Hp := { h with e := fun id => match h.e id with
 | some (.box v L) => match L.plain with
  | true => some (.box v L)
  | false => some .rsv
 | some .rsv => some .rsv
 | _ => none }
def quiet (h : Hp) : Hp := { h with lk := fun id => match Nat.blt id h.next with | true => true | false => h.lk id }
def still (h h' : Hp) : Hp := { e := fun id => match Nat.blt id h.next with | true => h.e id | false => h'.e id, lk := h.lk, next := h'.next }
def evDop {ρ : Type} (E : Env) (call : Handler) (n0 i : Nat) (o : Oper) (st : St) (K : AV → Hp → Option ρ) : Option ρ :=
 match isLight E o.op with
 | true => match veiled E with
  | true => match evLight E o { st with h := veil st.h } fun _ _ => some () with
   | some _ => evLight E o st K
   | none => none
  | false => evLight E o st K
 | false => match isCalm E o with
  | true => match isTame E o with
   | true => evOp E call o st K
   | false => evOp E call o { st with h := quiet st.h } fun v h' => K v (still st.h h')
  | false => match o.op with
   | .alloc t => match E.ty t, st.h.e (n0 + i), st.h.lk (n0 + i) with
    | some L, some .rsv, false => K (.ptr (n0 + i) []) (st.h.put (n0 + i) (.box (zeroAV L) L))
    | _, _, _ => none
   | op => match makes E op with
    | some m => match st.h.e (n0 + i), st.h.lk (n0 + i) with
     | some .rsv, false => K (m.f (n0 + i)) (st.h.put (n0 + i) (.box m.v m.L))
     | _, _ => none
    | none => evOp E call o st K
def putK {ρ : Type} (o : Oper) (st : St) (K : St → Option ρ) (v : AV) (h : Hp) : Option ρ := match ({ st with h := h } : St).put o.dst v with
 | some st' => K st'
 | none => none
def evDstep {ρ : Type} (E : Env) (call : Handler) (n0 : Nat) (all : List Oper) (i : Nat) (o : Oper) (st : St) (K : St → Option ρ) : Option ρ :=
 match o.guard with
 | none => evDop E call n0 i o st (putK o st K)
 | some (j, want) => match all[j]? with
  | some oj => match oj.dst with
   | some t => match st.fr t with
    | .data .bool b => P.cond b
      (match want with
       | true => evDop E call n0 i o (refine1 st t true) (putK o (refine1 st t true) K)
       | false => skipOp o (refine1 st t true) K)
      (match want with
       | true => skipOp o (refine1 st t false) K
       | false => evDop E call n0 i o (refine1 st t false) (putK o (refine1 st t false) K))
    | .tup .unit => skipOp o st K
    | _ => none
   | none => none
  | none => none
def reserve (h : Hp) (n : Nat) : Hp :=
  { e := fun id => match Nat.ble h.next id, Nat.blt id (h.next + n) with
      | true, true => some .rsv
      | _, _ => h.e id
    lk := h.lk
    next := h.next + n }
def enum {α : Type} : Nat → List α → List (Nat × α)
 | _, [] => []
 | i, x :: l => (i, x) :: enum (i + 1) l
def edgeMask (acc : List Nat) (j : Nat) : List Edge → Option Nat
 | [] => some 0
 | e :: r => match Region.binds .any e with
  | false => edgeMask acc j r
  | true => match Nat.blt e.on j with
   | true => match edgeMask acc j r with
    | some m => some (Nat.lor (Nat.lor (Nat.shiftLeft 1 e.on) (acc.getD e.on 0)) m)
    | none => none
   | false => none
def masks : List Nat → Nat → List Oper → Option (List Nat)
 | acc, _, [] => some acc
 | acc, j, o :: r => match edgeMask acc j o.after.toList with
  | some m => masks (acc ++ [m]) (j + 1) r
  | none => none
def tmpsOf : List Operand → List Nat
 | [] => []
 | .tmp t :: r => t :: tmpsOf r
 | _ :: r => tmpsOf r
def looks (all : List Oper) (o : Oper) : List Nat :=
 (match o.guard with
  | some (g, _) => match all[g]? with
   | some og => match og.dst with
    | some t => [t]
    | none => []
   | none => []
  | none => []) ++ tmpsOf o.op.operands.toList
def clear (d : Option Tmp) (l : List Nat) : Bool := match d with
 | some t => match memb t l with
  | true => false
  | false => true
 | none => true
def allocd (p : Nat) : List Oper → Bool
 | [] => false
 | o :: r => match o.op, o.dst with
  | .alloc _, some t => match Nat.beq t p with
   | true => true
   | false => allocd p r
  | _, _ => allocd p r
def isLst (E : Env) (all : List Oper) (o : Oper) : Bool := match o.guard, o.dst, o.op with
 | none, none, .store _ (.tmp p) _ => match memb 4 E.calm with
  | true => true
  | false => allocd p all
 | _, _, _ => false
def storedTo (p : Nat) : List Oper → Bool
 | [] => false
 | o :: r => match o.guard, o.dst, o.op with
  | none, none, .store _ (.tmp q) _ => match Nat.beq q p with
   | true => true
   | false => storedTo p r
  | _, _, _ => storedTo p r
def outers (fr : Nat → AV) : List Oper → List Nat
 | [] => []
 | o :: r => match o.guard, o.dst, o.op with
  | none, none, .store _ (.tmp p) _ => match fr p with
   | .ptr id [] => id :: outers fr r
   | _ => outers fr r
  | _, _, _ => outers fr r
def prots (n0 : Nat) (all : List Oper) : Nat → List Oper → List Nat
 | _, [] => []
 | i, o :: r => match o.op, o.dst with
  | .alloc _, some t => match storedTo t all with
   | true => (n0 + i) :: prots n0 all (i + 1) r
   | false => prots n0 all (i + 1) r
  | _, _ => prots n0 all (i + 1) r
def shy (fr : Nat → AV) (P : List Nat) : List Nat → Bool
 | [] => true
 | t :: r => match fr t with
  | .ptr id _ => match memb id P with
   | true => false
   | false => shy fr P r
  | _ => shy fr P r
def aims (fr : Nat → AV) (P : List Nat) : Op → Bool
 | .store _ (.tmp p) _ => match fr p with
  | .ptr id [] => memb id P
  | _ => false
 | _ => false
def chk (E : Env) (P : List Nat) (all : List Oper) (o : Oper) (fr : Nat → AV) : Bool := match free E o with
 | true => shy fr P (looks all o)
 | false => match isLst E all o with
  | true => aims fr P o.op
  | false => true
def evD {ρ : Type} (E : Env) (call : Handler) (n0 : Nat) (P : List Nat) (all : List Oper) : List (Nat × Oper) → St → (St → Option ρ) → Option ρ
 | [], st, K => K st
 | (i, o) :: r, st, K => match chk E P all o st.fr with
  | true => evDstep E call n0 all i o st fun st' => evD E call n0 P all r st' K
  | false => none
def apart (all : List Oper) (x y : Oper) : Bool := match clear x.dst (looks all y), clear y.dst (looks all x), clear x.dst y.dst.toList with
 | true, true, true => true
 | _, _, _ => false
def isGive (E : Env) (o : Oper) : Bool := match veiled E, E.ties with
 | false, none => match o.op with
  | .call c => match c.callee with
   | .value (.func g) => match look E.specs g, look E.inpl g, look E.ins g, look E.bw g, look E.ospecs g with
    | none, none, none, none, some _ => true
    | _, _, _, _, _ => false
   | _ => false
  | _ => false
 | _, _ => false
def indep (E : Env) (all : List Oper) (x y : Oper) : Bool := match isLight E x.op, isCalm E y with
 | true, true => apart all x y
 | _, _ => match free E x, (match free E y with | true => true | false => match isCalm E y with | true => isGive E y | false => isLst E all y) with
  | true, true => apart all x y
  | _, _ => false
def calmBits (E : Env) (all : List Oper) : Nat → List Oper → Nat
 | _, [] => 0
 | i, o :: r => match isCalm E o, isLst E all o with
  | false, false => calmBits E all (i + 1) r
  | _, _ => Nat.lor (Nat.shiftLeft 1 i) (calmBits E all (i + 1) r)
def latesOf (cm : Nat) : Nat → List Nat → List Bool
 | _, [] => []
 | i, m :: r => (match Nat.testBit cm i with
  | true => true
  | false => match Nat.beq (Nat.land m cm) 0 with
   | true => false
   | false => true) :: latesOf cm (i + 1) r
def lates (E : Env) (ops : List Oper) (ms : List Nat) : List Bool := latesOf (calmBits E ops 0 ops) 0 ms
def lateB (L : List Bool) (i : Nat) : Bool := L.getD i false
def after (L : List Bool) (i j : Nat) : Bool := match lateB L i, lateB L j with
 | true, false => true
 | _, _ => false
def rowOk (E : Env) (all : List Oper) (L : List Bool) (j : Nat) (oj : Oper) (m : Nat) : Nat → List Oper → Bool
 | _, [] => true
 | i, o :: r => match Nat.blt i j with
  | false => true
  | true => match Nat.testBit m i, after L i j with
   | true, false => rowOk E all L j oj m (i + 1) r
   | true, true => false
   | false, false => match indep E all o oj with
    | true => rowOk E all L j oj m (i + 1) r
    | false => false
   | false, true => match indep E all oj o with
    | true => rowOk E all L j oj m (i + 1) r
    | false => false
def edgesOk (L : List Bool) (j : Nat) : List Edge → Bool
 | [] => true
 | e :: r => match Region.binds .any e, after L e.on j with
  | true, true => false
  | _, _ => edgesOk L j r
def rowsOk (E : Env) (all : List Oper) (L : List Bool) : Nat → List Oper → List Nat → Bool
 | _, [], _ => true
 | j, o :: r, m :: ms => match rowOk E all L j o m 0 all, edgesOk L j o.after.toList with
  | true, true => rowsOk E all L (j + 1) r ms
  | _, _ => false
 | _, _ :: _, [] => false
def drawOk (E : Env) (ops : List Oper) : Bool := match masks [] 0 ops with
 | some ms => rowsOk E ops (lates E ops ms) 0 ops ms
 | none => false
def pickLate {α : Type} (L : List Bool) (b : Bool) : List (Nat × α) → List (Nat × α)
 | [] => []
 | p :: r => match lateB L p.1, b with
  | true, true => p :: pickLate L b r
  | false, false => p :: pickLate L b r
  | _, _ => pickLate L b r
def arrange {α : Type} (L : List Bool) (l : List (Nat × α)) : List (Nat × α) := pickLate L false l ++ pickLate L true l
def settle (h : Hp) (id : Nat) : Hp := match h.e id, h.lk id with
 | some (.box v L), false => match toD h v L, unlocked h v.owns, memb id v.owns with
  | some x, true, false => (h.kills v.owns).put id (.box (.data L x) L)
  | _, _, _ => h
 | _, _ => h
def settles (fr : Nat → AV) : List Oper → Hp → Hp
 | [], h => h
 | o :: r, h => match o.op with
  | .load _ (.tmp p) => match fr p with
   | .ptr id [] => settles fr r (settle h id)
   | _ => settles fr r h
  | _ => settles fr r h
def protsE (E : Env) (fr : Nat → AV) (n0 : Nat) (ops : List Oper) : List Nat := match memb 4 E.calm with
 | true => outers fr ops ++ prots n0 ops 0 ops
 | false => prots n0 ops 0 ops
def evDraw0 {ρ : Type} (E : Env) (call : Handler) (ops : List Oper) (st : St) (K : St → Option ρ) : Option ρ :=
 match masks [] 0 ops with
 | some ms => evD E call st.h.next (protsE E st.fr st.h.next ops) ops (arrange (lates E ops ms) (enum 0 ops)) { st with h := reserve st.h ops.length } K
 | none => none
def evDraw {ρ : Type} (E : Env) (call : Handler) (ops : List Oper) (st : St) (K : St → Option ρ) : Option ρ := match memb 2 E.calm with
 | true => evDraw0 E call ops { st with h := settles st.fr ops st.h } K
 | false => evDraw0 E call ops st K
def evC (E : Env) (call : Handler) (hs : List (Nat × Hint)) : Code → ∀ {ρ : Type}, St → (St → Option ρ) → (Nat → St → Option ρ) → (St → Option ρ) → Option ρ
 | .skip, _, st, kn, _, _ => kn st
 | .region _ ops draw, _, st, kn, _, _ => match draw with
  | false => evOps E call ops.toList ops.toList st kn
  | true => match drawOk E ops.toList with
   | true => evDraw E call ops.toList st kn
   | false => match drawOk E.veil ops.toList with
    | true => evDraw E.veil call ops.toList st kn
    | false => match drawOk E.lax ops.toList with
     | true => evDraw E.lax call ops.toList st kn
     | false => none
 | .seq a b, _, st, kn, ke, kr => evC E call hs a st (fun st' => evC E call hs b st' kn ke kr) ke kr
 | .cond c a b, _, st, kn, ke, kr => match c with
  | .tmp t => match st.fr t with
   | .data .bool x => P.cond x (evC E call hs a (refine1 st t true) kn ke kr) (evC E call hs b (refine1 st t false) kn ke kr)
   | .unkB => P.amb (evC E call hs a st kn ke kr) (evC E call hs b st kn ke kr)
   | _ => none
  | .const (.bool x) => P.cond x (evC E call hs a st kn ke kr) (evC E call hs b st kn ke kr)
  | _ => none
 | .block id c, _, st, kn, ke, kr => evC E call hs c st kn (fun i st' => match Nat.beq i id with
  | true => kn st'
  | false => ke i st') kr
 | .loop c, _, st, _, ke, kr => evLoop E.k (look hs (Code.key c)) (assigned c) st (fun s kn' ke' kr' => evC E call hs c s kn' ke' kr') ke kr
 | .exit id, _, st, _, ke, _ => ke id st
 | .ret, _, st, _, _, kr => kr st
 | _, _, _, _, _, _ => none
def resOf (E : Env) (h : Hp) (fr : Nat → AV) : ResultVar → Option AV
 | .tmp t => some (fr t)
 | .cell a t => match fr a with
  | .ptr id p => match h.e id with
   | some (.box v L) => match offs L p with
    | some (_, u) => match decide (E.ty t = some u) with
     | true => v.get p
     | false => none
    | none => none
   | _ => none
  | _ => none
def ressOf (E : Env) (h : Hp) (fr : Nat → AV) : List ResultVar → Option AV
 | [] => some .unit
 | r :: l => match resOf E h fr r with
  | some v => match ressOf E h fr l with
   | some u => some (.pr v u)
   | none => none
  | none => none
def resultAV (E : Env) (h : Hp) (fr : Nat → AV) (l : List ResultVar) : Option AV :=
 match l with
 | [r] => resOf E h fr r
 | l => match ressOf E h fr l with
  | some v => some (.tup v)
  | none => none
def argsFr : List AV → Nat → AV
 | [], _ => .undef
 | v :: _, 0 => v
 | _ :: l, t + 1 => argsFr l t
def evBody (E : Env) (call : Handler) {ρ : Type} (fn : Func) (hs : List (Nat × Hint)) (args : List AV) (h : Hp) (K : AV → Hp → Option ρ) : Option ρ :=
 match fn.body with
 | none => none
 | some c =>
  let fin := fun (st : St) => match resultAV E st.h st.fr fn.results.toList with
   | some v => K v st.h
   | none => none
  evC E call hs c { n := fn.ntmps, fr := argsFr args, ro := fun _ => false, h := h } fin (fun _ _ => none) fin
def evCall (E : Env) : Nat → Handler
 | 0 => fun _ _ _ _ => none
 | n + 1 => fun f args h K => match look E.codes f with
  | some (fn, hs) => evBody E (evCall E n) fn hs args h K
  | none => none
def h0 : Hp := { e := fun _ => none, lk := fun _ => false, next := 0 }
def toL {ρ : Type} (h : Hp) : AV → (t : Ty) → (t.D → Option ρ) → Option ρ
 | .dref id, .slice (.slice e), K => match rowsOf e h id with
  | some xs => P.bind (P.dall xs) K
  | none => none
 | .dref id, .slice (.st (.pair (.slice e) r)), K => match tieOf e r h id with
  | some (v, n, b, l) => match toD h v (.slice e) with
   | some ys => K (P.tres b n l ys (Ty.st (.pair (.slice e) r)).zero)
   | none => none
  | none => none
 | .st b, .st tb, K => toL h b tb K
 | .pr a r, .pair ta tr, K => toL h a ta fun x => toL h r tr fun y => K (x, y)
 | v, t, K => match toD h v t with
  | some x => K x
  | none => none
def toChain {ρ : Type} (h : Hp) : AV → (t : Ty) → (t.D → Option ρ) → Option ρ
 | .pr a r, .pair ta tr, K => toL h a ta fun x => toChain h r tr fun y => K (x, y)
 | .pr _ _, .unit, _ => none
 | .pr a .unit, t, K => toL h a t K
 | _, _, _ => none
def toRes (h : Hp) : (t : Ty) → AV → Option t.D
 | .pair a b, .tup v => toChain h v (.pair a b) some
 | .pair _ _, _ => none
 | .unit, .tup .unit => some ()
 | .unit, _ => none
 | t, v => toL h v t some
def evFn (E : Env) (n : Nat) (fn : Func) (hs : List (Nat × Hint)) (a r : Ty) (x : a.D) : Option r.D :=
 evBody E (evCall E n) fn hs (argList a x) h0 fun v h => toRes h r v
end
end Go.PG
end
section
namespace Go.PG
open Go.RowKit
theorem P.seq_eq (x y : ByteArray) : P.seq x y = (x.toList == y.toList) := by
 simp only [P.seq_def]
 rw [ByteArray.toList_eq, ByteArray.toList_eq]
inductive Bk where
 | box (b : Nat)
 | row (A : Option Addr) (n cap : Nat)
 | nil
 /-- a block, and others that go with it -/
 | two (b : Nat) (ex : Nat → Prop)
 /-- a row, and the blocks that go with it (its own, too) -/
 | rows (A : Option Addr) (n cap : Nat) (ex : Nat → Prop)
def Bk.blk : Bk → Option Nat
 | .box b => some b
 | .two b _ => some b
 | .row _ _ 0 => none
 | .nil => none
 | .rows _ _ _ _ => none
 | .row A _ (_ + 1) => A.map (·.block)
def Bk.ex : Bk → Nat → Prop
 | .two _ ex => ex
 | .rows _ _ _ ex => ex
 | _ => fun _ => False
def Bk.has (k : Bk) (b : Nat) : Prop := k.blk = some b ∨ k.ex b
def Bk.at : Bk → Option Nat
 | .box b => some b
 | .two b _ => some b
 | _ => none
theorem Bk.at_blk {k : Bk} {b : Nat} (h : k.at = some b) : k.blk = some b := by cases k <;> first | exact h | cases h
theorem Bk.at_has {k : Bk} {b : Nat} (h : k.at = some b) : k.has b := .inl (Bk.at_blk h)
def SameB (k k' : Bk) : Prop := k' = k ∨ (∃ b ex ex', k = .two b ex ∧ k' = .two b ex') ∨ ∃ A n cap ex ex', k = .rows A n cap ex ∧ k' = .rows A n cap ex'
theorem SameB.rfl {k : Bk} : SameB k k := .inl _root_.rfl
theorem SameB.of {k k' : Bk} (h : k' = k) : SameB k k' := .inl h
theorem SameB.at {k k' : Bk} (h : SameB k k') : k'.at = k.at := by
 rcases h with rfl | ⟨b, ex, ex', rfl, rfl⟩ | ⟨A, n, cap, ex, ex', rfl, rfl⟩ <;> rfl
theorem SameB.row {k k' : Bk} (h : SameB k k') {A : Option Addr} {n cap : Nat} (hk : k = .row A n cap) : k' = .row A n cap := by
 rcases h with rfl | ⟨b, ex, ex', rfl, rfl⟩ | ⟨A, n, cap, ex, ex', rfl, rfl⟩
 ·exact hk
 ·cases hk
 ·cases hk
theorem SameB.rows {k k' : Bk} (h : SameB k k') {A : Option Addr} {n cap : Nat} {ex : Nat → Prop} (hk : k = .rows A n cap ex) : ∃ ex', k' = .rows A n cap ex' := by
 rcases h with rfl | ⟨b, ex, ex', rfl, rfl⟩ | ⟨A, n, cap, ex, ex', rfl, rfl⟩
 ·exact ⟨ex, hk⟩
 ·cases hk
 ·injection hk with q1 q2 q3
  subst q1; subst q2; subst q3
  exact ⟨ex', _root_.rfl⟩
theorem SameB.trans {k k' k'' : Bk} (h : SameB k k') (g : SameB k' k'') : SameB k k'' := by
 rcases h with rfl | ⟨b, ex, ex', rfl, rfl⟩ | ⟨A, n, cap, ex, ex', rfl, rfl⟩
 ·exact g
 ·rcases g with rfl | ⟨b2, e1, e2, q1, rfl⟩ | ⟨A, n, cap, e1, e2, q1, rfl⟩
  ·exact .inr (.inl ⟨b, ex, ex', _root_.rfl, _root_.rfl⟩)
  ·injection q1 with q1 q2
   subst q1
   exact .inr (.inl ⟨b, ex, e2, _root_.rfl, _root_.rfl⟩)
  ·cases q1
 ·rcases g with rfl | ⟨b2, e1, e2, q1, rfl⟩ | ⟨A2, n2, cap2, e1, e2, q1, rfl⟩
  ·exact .inr (.inr ⟨A, n, cap, ex, ex', _root_.rfl, _root_.rfl⟩)
  ·cases q1
  ·injection q1 with q1 q2 q3
   subst q1; subst q2; subst q3
   exact .inr (.inr ⟨A, n, cap, ex, e2, _root_.rfl, _root_.rfl⟩)
theorem blk_row {b o n cap : Nat} (h : cap ≠ 0) : (Bk.row (some ⟨b, o, none⟩) n cap).blk = some b := by
 cases cap with
 | zero => exact absurd rfl h
 | succ c => rfl
theorem blk_some {A : Option Addr} {n cap b : Nat} (h : (Bk.row A n cap).blk = some b) : cap ≠ 0 ∧ ∃ a, A = some a ∧ a.block = b := by
 cases cap with
 | zero => cases h
 | succ c => cases A with
  | none => cases h
  | some a => exact ⟨by omega, a, rfl, by simpa [Bk.blk] using h⟩
structure Cx where
 S : Nat → Prop
 w : World
 h : Nat → Option Ent
 M : Nat → Bk
 nx : Nat
def Cx.Z (c : Cx) (b : Nat) : Prop := c.S b ∨ ∃ id e, c.h id = some e ∧ (c.M id).has b
def Mem (w : World) (b o : Nat) (cs : List Value) : Prop := ∀ j v, cs[j]? = some v → w.cell? ⟨b, o + j, none⟩ = some v
def Lies (t : Ty) (cs : List Value) (v : Value) : Prop := (isSt t = true ∧ v = .agg cs.toArray) ∨ (isSt t = false ∧ cs = [v])
def mapCell (es : List (Value × Value)) : Value := .func (.func 0) #[] (es.flatMap fun e => [e.1, e.2]).toArray
def rowCell : Option (List (List Value)) → Value
 | none => .bool false
 | some rows => .func (.func 0) #[] (rows.map fun r => Value.agg r.toArray).toArray
def RepG (R : Tree → List Value → Prop) (Z : Nat → Prop) (w : World) : (t : Ty) → t.D → List Value → Prop
 | .unit, _, cs => cs = []
 | .bool, x, cs => cs = [.bool x]
 | .int k, x, cs => cs = [.int k x]
 | .str, x, cs => cs = [.string x]
 | .slice e, xs, cs => ∃ A cap, cs = [.slice A (List.length xs) cap] ∧ List.length xs ≤ cap ∧
   (xs = [] ∨ ∃ b o, A = some ⟨b, o, none⟩ ∧ b < w.heap.size ∧ ¬ Z b ∧
    ∀ i x, xs[i]? = some x → ∃ c, RepG R Z w e x c ∧ Mem w b (o + i * e.size) c)
 | .st b, x, cs => RepG R Z w b x cs
 | .pair a b, x, cs => ∃ c1 c2, cs = c1 ++ c2 ∧ RepG R Z w a x.1 c1 ∧ RepG R Z w b x.2 c2
 | .slf, x, cs => R x cs
 | _, _, _ => False
def RepN (Z : Nat → Prop) (w : World) : Nat → Tree → List Value → Prop
 | 0, _, _ => False
 | n + 1, x, cs => RepG (RepN Z w n) Z w slfB (P.tun x) cs
def RepD (Z : Nat → Prop) (w : World) : (t : Ty) → t.D → List Value → Prop
 | .slf, x, cs => ∃ n, RepN Z w n x cs
 | .unit, _, cs => cs = []
 | .opq, _, _ => False
 | .bool, x, cs => cs = [.bool x]
 | .int k, x, cs => cs = [.int k x]
 | .str, x, cs => cs = [.string x]
 | .slice e, xs, cs => ∃ A cap, cs = [.slice A (List.length xs) cap] ∧ List.length xs ≤ cap ∧
   (xs = [] ∨ ∃ b o, A = some ⟨b, o, none⟩ ∧ b < w.heap.size ∧ ¬ Z b ∧
    ∀ i x, xs[i]? = some x → ∃ c, RepD Z w e x c ∧ Mem w b (o + i * e.size) c)
 | .st b, x, cs => RepD Z w b x cs
 | .pair a b, x, cs => ∃ c1 c2, cs = c1 ++ c2 ∧ RepD Z w a x.1 c1 ∧ RepD Z w b x.2 c2
 | .map k v, xs, cs => ∃ es : List (Value × Value), cs = [mapCell es] ∧ es.length = List.length xs ∧ ∀ (i : Nat) (p : k.D × v.D), xs[i]? = some p → ∃ e ck cv, es[i]? = some e ∧ RepD Z w k p.1 ck ∧ Lies k ck e.1 ∧ RepD Z w v p.2 cv ∧ Lies v cv e.2
 | .bld _ _, x, cs => cs = [.string x]
 | .dmap k v, xs, cs => ∃ gs : List (Value × Option (List (List Value))), cs = [mapCell (gs.map fun g => (g.1, rowCell g.2))] ∧ gs.length = List.length xs ∧ ∀ (i : Nat) (p : k.D × Option (List v.D)), xs[i]? = some p →
   ∃ g ck, gs[i]? = some g ∧ RepD Z w k p.1 ck ∧ Lies k ck g.1 ∧ (p.2 = none → g.2 = none) ∧
    ∀ l, p.2 = some l → ∃ rows, g.2 = some rows ∧ rows.length = List.length l ∧ ∀ (j : Nat) (x : v.D), l[j]? = some x → ∃ d, rows[j]? = some d ∧ RepD Z w v x d
def Held (Z Z' : Nat → Prop) (w w' : World) : Prop := ∀ b, b < w.heap.size → ¬ Z b → ¬ Z' b ∧ w'.heap[b]? = w.heap[b]?
theorem RepG.len {R : Tree → List Value → Prop} {Z : Nat → Prop} {w : World} (hR : ∀ x cs, R x cs → cs.length = 8) : ∀ {t : Ty} {x : t.D} {cs : List Value}, RepG R Z w t x cs → cs.length = t.size := by
 intro t
 induction t with
 | unit => intro x cs h; simp only [RepG] at h; subst h; rfl
 | bool => intro x cs h; simp only [RepG] at h; subst h; rfl
 | str => intro x cs h; simp only [RepG] at h; subst h; rfl
 | int k => intro x cs h; simp only [RepG] at h; subst h; rfl
 | slice e ih => intro x cs h; simp only [RepG] at h; obtain ⟨A, cap, rfl, _⟩ := h; rfl
 | st b ih => intro x cs h; simp only [RepG] at h; exact ih h
 | pair a b iha ihb =>
  intro x cs h
  simp only [RepG] at h
  obtain ⟨c1, c2, rfl, h1, h2⟩ := h
  simp [Ty.size, iha h1, ihb h2]
 | slf => intro x cs h; exact hR x cs h
 | _ => intro x cs h; exact h.elim
theorem RepN.len {Z : Nat → Prop} {w : World} : ∀ {n : Nat} {x : Tree} {cs : List Value}, RepN Z w n x cs → cs.length = 8 := by
 intro n
 induction n with
 | zero => intro x cs h; exact h.elim
 | succ n ih => intro x cs h; exact RepG.len (t := slfB) (fun x cs => ih) h
theorem RepG.one {R : Tree → List Value → Prop} {Z : Nat → Prop} {w : World} (hR : ∀ x cs, R x cs → ∀ v ∈ cs, v.oneCell' = true) : ∀ {t : Ty} {x : t.D} {cs : List Value}, RepG R Z w t x cs → ∀ v ∈ cs, v.oneCell' = true := by
 intro t
 induction t with
 | unit => intro x cs h; simp only [RepG] at h; subst h; simp
 | bool => intro x cs h; simp only [RepG] at h; subst h; simp [Value.oneCell']
 | str => intro x cs h; simp only [RepG] at h; subst h; simp [Value.oneCell']
 | int k => intro x cs h; simp only [RepG] at h; subst h; simp [Value.oneCell']
 | slice e ih => intro x cs h; simp only [RepG] at h; obtain ⟨A, cap, rfl, _⟩ := h; simp [Value.oneCell']
 | st b ih => intro x cs h; simp only [RepG] at h; exact ih h
 | pair a b iha ihb =>
  intro x cs h
  simp only [RepG] at h
  obtain ⟨c1, c2, rfl, h1, h2⟩ := h
  intro v hv
  rcases List.mem_append.1 hv with hv | hv
  ·exact iha h1 v hv
  ·exact ihb h2 v hv
 | slf => intro x cs h; exact hR x cs h
 | _ => intro x cs h; exact h.elim
theorem RepN.one {Z : Nat → Prop} {w : World} : ∀ {n : Nat} {x : Tree} {cs : List Value}, RepN Z w n x cs → ∀ v ∈ cs, v.oneCell' = true := by
 intro n
 induction n with
 | zero => intro x cs h; exact h.elim
 | succ n ih => intro x cs h; exact RepG.one (t := slfB) (fun x cs => ih) h
theorem RepD.len {Z : Nat → Prop} {w : World} : ∀ {t : Ty} {x : t.D} {cs : List Value}, RepD Z w t x cs → cs.length = t.size := by
 intro t
 induction t with
 | unit => intro x cs h; simp only [RepD] at h; subst h; rfl
 | bool => intro x cs h; simp only [RepD] at h; subst h; rfl
 | str => intro x cs h; simp only [RepD] at h; subst h; rfl
 | opq => intro x cs h; exact h.elim
 | int k => intro x cs h; simp only [RepD] at h; subst h; rfl
 | slice e ih => intro x cs h; simp only [RepD] at h; obtain ⟨A, cap, rfl, _⟩ := h; rfl
 | st b ih => intro x cs h; simp only [RepD] at h; exact ih h
 | pair a b iha ihb =>
  intro x cs h
  simp only [RepD] at h
  obtain ⟨c1, c2, rfl, h1, h2⟩ := h
  simp [Ty.size, iha h1, ihb h2]
 | map k v _ _ => intro x cs h; simp only [RepD] at h; obtain ⟨es, rfl, _⟩ := h; rfl
 | bld T e => intro x cs h; simp only [RepD] at h; subst h; rfl
 | dmap k v _ _ => intro x cs h; simp only [RepD] at h; obtain ⟨es, rfl, _⟩ := h; rfl
 | slf => intro x cs h; simp only [RepD] at h; obtain ⟨n, h⟩ := h; exact h.len
theorem cell_of_heap {w w' : World} {b o : Nat} (h : w'.heap[b]? = w.heap[b]?) : w'.cell? ⟨b, o, none⟩ = w.cell? ⟨b, o, none⟩ := by
 unfold World.cell?; rw [h]
theorem lt_of_get {w w' : World} {b : Nat} (hb : b < w.heap.size) (h : w'.heap[b]? = w.heap[b]?) : b < w'.heap.size := by
 rw [Array.getElem?_eq_getElem hb] at h
 exact (Array.getElem?_eq_some_iff.1 h).1
theorem RepG.tr {R R' : Tree → List Value → Prop} {Z Z' : Nat → Prop} {w w' : World} (hk : Held Z Z' w w') (hR : ∀ x cs, R x cs → R' x cs) : ∀ {t : Ty} {x : t.D} {cs : List Value}, RepG R Z w t x cs → RepG R' Z' w' t x cs := by
 intro t
 induction t with
 | unit => exact id
 | bool => exact id
 | str => exact id
 | int k => exact id
 | st b ih => intro x cs h; simp only [RepG] at h ⊢; exact ih h
 | pair a b iha ihb =>
  intro x cs h
  simp only [RepG] at h ⊢
  obtain ⟨c1, c2, rfl, h1, h2⟩ := h
  exact ⟨c1, c2, rfl, iha h1, ihb h2⟩
 | slice e ih =>
  intro xs cs h
  simp only [RepG] at h ⊢
  obtain ⟨A, cap, rfl, hle, h⟩ := h
  refine ⟨A, cap, rfl, hle, ?_⟩
  rcases h with h | ⟨b, o, rfl, hb, hz, h⟩
  ·exact .inl h
  ·obtain ⟨hz', hw⟩ := hk b hb hz
   refine .inr ⟨b, o, rfl, lt_of_get hb hw, hz', fun i x hx => ?_⟩
   obtain ⟨c, hc, hm⟩ := h i x hx
   exact ⟨c, ih hc, fun j v hv => (cell_of_heap hw).trans (hm j v hv)⟩
 | slf => intro x cs h; exact hR x cs h
 | _ => intro x cs h; exact h.elim
theorem RepN.tr {Z Z' : Nat → Prop} {w w' : World} (hk : Held Z Z' w w') : ∀ {n : Nat} {x : Tree} {cs : List Value}, RepN Z w n x cs → RepN Z' w' n x cs := by
 intro n
 induction n with
 | zero => intro x cs h; exact h.elim
 | succ n ih => intro x cs h; exact RepG.tr (t := slfB) hk (fun x cs => ih) h
theorem Held.same (Z : Nat → Prop) (w : World) : Held Z Z w w := fun _ _ hz => ⟨hz, rfl⟩
theorem RepN.succ {Z : Nat → Prop} {w : World} : ∀ {n : Nat} {x : Tree} {cs : List Value}, RepN Z w n x cs → RepN Z w (n + 1) x cs := by
 intro n
 induction n with
 | zero => intro x cs h; exact h.elim
 | succ n ih => intro x cs h; exact RepG.tr (t := slfB) (Held.same Z w) (fun x cs => ih) h
theorem RepN.le {Z : Nat → Prop} {w : World} {n m : Nat} (h : n ≤ m) {x : Tree} {cs : List Value} (hr : RepN Z w n x cs) : RepN Z w m x cs := by
 induction h with
 | refl => exact hr
 | step _ ih => exact ih.succ
theorem RepD.held {Z Z' : Nat → Prop} {w w' : World} (hk : Held Z Z' w w') : ∀ {t : Ty} {x : t.D} {cs : List Value}, RepD Z w t x cs → RepD Z' w' t x cs := by
 intro t
 induction t with
 | unit => exact id
 | bool => exact id
 | str => exact id
 | opq => exact id
 | int k => exact id
 | st b ih => intro x cs h; simp only [RepD] at h ⊢; exact ih h
 | pair a b iha ihb =>
  intro x cs h
  simp only [RepD] at h ⊢
  obtain ⟨c1, c2, rfl, h1, h2⟩ := h
  exact ⟨c1, c2, rfl, iha h1, ihb h2⟩
 | slice e ih =>
  intro xs cs h
  simp only [RepD] at h ⊢
  obtain ⟨A, cap, rfl, hle, h⟩ := h
  refine ⟨A, cap, rfl, hle, ?_⟩
  rcases h with h | ⟨b, o, rfl, hb, hz, h⟩
  ·exact .inl h
  ·obtain ⟨hz', hw⟩ := hk b hb hz
   refine .inr ⟨b, o, rfl, lt_of_get hb hw, hz', fun i x hx => ?_⟩
   obtain ⟨c, hc, hm⟩ := h i x hx
   exact ⟨c, ih hc, fun j v hv => (cell_of_heap hw).trans (hm j v hv)⟩
 | map k v ihk ihv =>
  intro xs cs h
  simp only [RepD] at h ⊢
  obtain ⟨es, rfl, hl, h⟩ := h
  refine ⟨es, rfl, hl, fun i p hp => ?_⟩
  obtain ⟨e, ck, cv, h1, h2, h3, h4, h5⟩ := h i p hp
  exact ⟨e, ck, cv, h1, ihk h2, h3, ihv h4, h5⟩
 | bld T e => exact id
 | dmap k v ihk ihv =>
  intro xs cs h
  simp only [RepD] at h ⊢
  obtain ⟨gs, rfl, hl, h⟩ := h
  refine ⟨gs, rfl, hl, fun i p hp => ?_⟩
  obtain ⟨g, ck, h1, h2, h3, h4, h5⟩ := h i p hp
  refine ⟨g, ck, h1, ihk h2, h3, h4, fun l hl => ?_⟩
  obtain ⟨rows, g1, g2, g3⟩ := h5 l hl
  refine ⟨rows, g1, g2, fun j x hx => ?_⟩
  obtain ⟨d, d1, d2⟩ := g3 j x hx
  exact ⟨d, d1, ihv d2⟩
 | slf =>
  intro x cs h
  simp only [RepD] at h ⊢
  obtain ⟨n, h⟩ := h
  exact ⟨n, h.tr hk⟩
def Ty.leafy : Ty → Bool
 | .bool | .int _ | .str | .slf => true
 | .slice e => e.leafy
 | .st b => b.leafy
 | .pair a b => a.leafy && b.leafy
 | _ => false
theorem RepG.repD {R : Tree → List Value → Prop} {Z : Nat → Prop} {w : World} (hR : ∀ x cs, R x cs → RepD Z w .slf x cs) : ∀ {t : Ty} {x : t.D} {cs : List Value}, RepG R Z w t x cs → RepD Z w t x cs := by
 intro t
 induction t with
 | unit => exact id
 | bool => exact id
 | str => exact id
 | int k => exact id
 | st b ih => intro x cs h; simp only [RepG, RepD] at h ⊢; exact ih h
 | pair a b iha ihb =>
  intro x cs h
  simp only [RepG, RepD] at h ⊢
  obtain ⟨c1, c2, rfl, h1, h2⟩ := h
  exact ⟨c1, c2, rfl, iha h1, ihb h2⟩
 | slice e ih =>
  intro xs cs h
  simp only [RepG] at h
  simp only [RepD]
  obtain ⟨A, cap, rfl, hle, h⟩ := h
  refine ⟨A, cap, rfl, hle, ?_⟩
  rcases h with h | ⟨b, o, rfl, hb, hz, h⟩
  ·exact .inl h
  ·refine .inr ⟨b, o, rfl, hb, hz, fun i x hx => ?_⟩
   obtain ⟨c, hc, hm⟩ := h i x hx
   exact ⟨c, ih hc, hm⟩
 | slf => intro x cs h; exact hR x cs h
 | _ => intro x cs h; exact h.elim
theorem all_nat {α : Type} {Q : Nat → Nat → α → Prop} (hQ : ∀ n m i x, n ≤ m → Q n i x → Q m i x) : ∀ (l : List α) (k : Nat), (∀ i x, l[i]? = some x → ∃ n, Q n (k + i) x) → ∃ n, ∀ i x, l[i]? = some x → Q n (k + i) x := by
 intro l
 induction l with
 | nil => intro k _; exact ⟨0, fun i x h => by simp at h⟩
 | cons a l ih =>
  intro k h
  obtain ⟨n, hn⟩ := h 0 a rfl
  obtain ⟨m, hm⟩ := ih (k + 1) (fun i x hx => by
   obtain ⟨n, hn⟩ := h (i + 1) x (by simpa using hx)
   exact ⟨n, by rw [show k + 1 + i = k + (i + 1) by omega]; exact hn⟩)
  refine ⟨max n m, fun i x hx => ?_⟩
  cases i with
  | zero => simp at hx; subst hx; exact hQ _ _ _ _ (Nat.le_max_left _ _) hn
  | succ i => simp at hx; have := hm i x hx; rw [show k + 1 + i = k + (i + 1) by omega] at this; exact hQ _ _ _ _ (Nat.le_max_right _ _) this
theorem RepD.repG {Z : Nat → Prop} {w : World} : ∀ {t : Ty} {x : t.D} {cs : List Value}, t.leafy = true → RepD Z w t x cs → ∃ n, RepG (RepN Z w n) Z w t x cs := by
 intro t
 induction t with
 | bool => intro x cs _ h; exact ⟨0, h⟩
 | str => intro x cs _ h; exact ⟨0, h⟩
 | int k => intro x cs _ h; exact ⟨0, h⟩
 | st b ih => intro x cs l h; simp only [RepD] at h; obtain ⟨n, h⟩ := ih (by simpa [Ty.leafy] using l) h; exact ⟨n, h⟩
 | pair a b iha ihb =>
  intro x cs l h
  simp only [RepD] at h
  simp only [Ty.leafy, Bool.and_eq_true] at l
  obtain ⟨c1, c2, rfl, h1, h2⟩ := h
  obtain ⟨n, h1⟩ := iha l.1 h1
  obtain ⟨m, h2⟩ := ihb l.2 h2
  refine ⟨max n m, c1, c2, rfl, ?_, ?_⟩
  ·exact RepG.tr (Held.same Z w) (fun x cs h => h.le (Nat.le_max_left _ _)) h1
  ·exact RepG.tr (Held.same Z w) (fun x cs h => h.le (Nat.le_max_right _ _)) h2
 | slice e ih =>
  intro xs cs l h
  simp only [RepD] at h
  simp only [Ty.leafy] at l
  obtain ⟨A, cap, rfl, hle, h⟩ := h
  rcases h with h | ⟨b, o, rfl, hb, hz, h⟩
  ·exact ⟨0, A, cap, rfl, hle, .inl h⟩
  ·obtain ⟨n, hn⟩ := all_nat (Q := fun n i x => ∃ c, RepG (RepN Z w n) Z w e x c ∧ Mem w b (o + i * e.size) c)
    (fun n m i x hnm ⟨c, h1, h2⟩ => ⟨c, RepG.tr (Held.same Z w) (fun x cs h => h.le hnm) h1, h2⟩) xs 0 (fun i x hx => by
     obtain ⟨c, h1, h2⟩ := h i x hx
     obtain ⟨n, h1⟩ := ih l h1
     exact ⟨n, c, h1, by rw [Nat.zero_add]; exact h2⟩)
   refine ⟨n, _, cap, rfl, hle, .inr ⟨b, o, rfl, hb, hz, fun i x hx => ?_⟩⟩
   have := hn i x hx
   rwa [Nat.zero_add] at this
 | slf => intro x cs _ h; exact h
 | _ => intro x cs l h; simp [Ty.leafy] at l
theorem RepD.slf_iff {Z : Nat → Prop} {w : World} {x : Tree} {cs : List Value} : RepD Z w .slf x cs ↔ RepD Z w (.st slfB) (P.tun x) cs := by
 constructor
 ·intro h
  simp only [RepD] at h
  obtain ⟨n, h⟩ := h
  cases n with
  | zero => exact h.elim
  | succ n => exact RepG.repD (t := .st slfB) (fun x cs h => ⟨n, h⟩) h
 ·intro h
  obtain ⟨n, h⟩ := RepD.repG (t := .st slfB) rfl h
  exact ⟨n + 1, h⟩
theorem RepD.un {Z : Nat → Prop} {w : World} {t : Ty} {x : t.D} {cs : List Value} (h : RepD Z w t x cs) : RepD Z w t.un (unD t x) cs := by
 cases t with
 | slf => exact RepD.slf_iff.1 h
 | _ => exact h
theorem RepD.of {Z : Nat → Prop} {w : World} {t : Ty} {x : t.un.D} {cs : List Value} (h : RepD Z w t.un x cs) : RepD Z w t (ofD t x) cs := by
 cases t with
 | slf => exact RepD.slf_iff.2 h
 | _ => exact h
theorem un_pair {t a b : Ty} (h : t.un = .pair a b) : t = .pair a b := by cases t <;> first | exact h | simp [Ty.un] at h
def Rep1 (c : Cx) : AV → List Value → Prop
 | .nilS _, cs => ∃ A, cs = [.slice A 0 0]
 | .own id, cs => id < c.nx ∧ ∃ A n cap, cs = [.slice A n cap] ∧ (c.h id = none ∨ c.M id = .row A n cap)
 | .ptr id p, cs => id < c.nx ∧ ∃ q, cs = [.pointer q] ∧ (c.h id = none ∨ ∃ b v L o u, (c.M id).at = some b ∧ c.h id = some (.box v L) ∧ offs L p = some (o, u) ∧ q = some ⟨b, o, none⟩)
 | .mref id, cs => id < c.nx ∧ ∃ q, cs = [.map q] ∧ (c.h id = none ∨ ∃ b v L, (c.M id).at = some b ∧ c.h id = some (.box v L) ∧ q = some b)
 | .rptr t x, cs => ∃ b o d, cs = [.pointer (some ⟨b, o, none⟩)] ∧ b < c.w.heap.size ∧ ¬ c.Z b ∧ RepD c.Z c.w t x d ∧ Mem c.w b o d
 | .eptr id i p, cs => id < c.nx ∧ ∃ z, cs = [.pointer z] ∧ (c.h id = none ∨ ∃ b o n cap e xs q u, c.M id = .row (some ⟨b, o, none⟩) n cap ∧ c.h id = some (.row e xs) ∧ 0 ≤ i ∧
   i.toNat < List.length xs ∧ offs e p = some (q, u) ∧ z = some ⟨b, o + i.toNat * e.size + q, none⟩)
 | .view id a n, cs => id < c.nx ∧ ∃ z m cap', cs = [.slice z m cap'] ∧ n = (m : Int) ∧ 0 ≤ a ∧ m ≤ cap' ∧ (c.h id = none ∨ ∃ A len cap e xs, c.M id = .row A len cap ∧ c.h id = some (.row e xs) ∧
   a.toNat + m ≤ List.length xs ∧ cap' = cap - a.toNat ∧ (cap' = 0 ∨ z = A.map (·.add (a.toNat * e.size))))
 | .unkB, cs => ∃ b, cs = [.bool b]
 | .dref id, cs => id < c.nx ∧ ∃ A n cap, cs = [.slice A n cap] ∧ (c.h id = none ∨ ∃ ex, c.M id = .rows A n cap ex)
 | .dptr id i, cs => id < c.nx ∧ ∃ z, cs = [.pointer z] ∧ (c.h id = none ∨ ∃ b o n cap ex, c.M id = .rows (some ⟨b, o, none⟩) n cap ex ∧ 0 ≤ i ∧ i.toNat < n ∧ z = some ⟨b, o + i.toNat, none⟩)
 | .tptr id i m, cs => id < c.nx ∧ ∃ z, cs = [.pointer z] ∧ (c.h id = none ∨ ∃ b o n cap ex, c.M id = .rows (some ⟨b, o, none⟩) n cap ex ∧ 0 ≤ i ∧ i.toNat < n ∧ z = some ⟨b, o + i.toNat * m, none⟩)
 | _, _ => False
mutual
def RepC (c : Cx) : AV → List Value → Prop
 | .undef, cs => ∃ v, cs = [v] ∧ v.oneCell' = true
 | .unit, cs => cs = []
 | .data t x, cs => RepD c.Z c.w t x cs
 | .fn f d, cs => ∃ vs, cs = [.func (.func f) #[] vs] ∧ RepT c d vs.toList
 | .st b, cs => RepC c b cs
 | .pr a r, cs => ∃ c1 c2, cs = c1 ++ c2 ∧ RepC c a c1 ∧ RepC c r c2
 | .tup _, _ => False
 | v, cs => Rep1 c v cs
def RepV (c : Cx) : AV → Value → Prop
 | .undef, _ => True
 | .tup b, v => ∃ vs, v = .tuple vs ∧ RepT c b vs.toList
 | .data t x, v => (isSt t = true ∧ ∃ cs, v = .agg cs ∧ RepD c.Z c.w t x cs.toList) ∨ (isSt t = false ∧ RepD c.Z c.w t x [v])
 | .st b, v => ∃ cs, v = .agg cs ∧ RepC c b cs.toList
 | .unit, _ => False
 | .pr _ _, _ => False
 | .fn f d, v => ∃ vs, v = .func (.func f) #[] vs ∧ RepT c d vs.toList
 | u, v => Rep1 c u [v]
def RepT (c : Cx) : AV → List Value → Prop
 | .unit, vs => vs = []
 | .pr a r, vs => ∃ v vs', vs = v :: vs' ∧ RepV c a v ∧ RepT c r vs'
 | .undef, vs => ∃ v, vs = [v]
 | .tup b, vs => ∃ us, vs = [.tuple us] ∧ RepT c b us.toList
 | .data t x, vs => ∃ v, vs = [v] ∧ ((isSt t = true ∧ ∃ cs, v = .agg cs ∧ RepD c.Z c.w t x cs.toList) ∨ (isSt t = false ∧ RepD c.Z c.w t x [v]))
 | .st b, vs => ∃ cs, vs = [.agg cs] ∧ RepC c b cs.toList
 | .fn f d, vs => ∃ ws, vs = [.func (.func f) #[] ws] ∧ RepT c d ws.toList
 | u, vs => ∃ v, vs = [v] ∧ Rep1 c u [v]
end
structure Tr (c d : Cx) : Prop where
 held : Held c.Z d.Z c.w d.w
 nx : c.nx ≤ d.nx
 ids : ∀ id, id < c.nx → d.h id = none ∨ (c.h id = some .rsv ∧ c.M id = .nil) ∨ (SameB (c.M id) (d.M id) ∧ ((∃ v v' L, c.h id = some (.box v L) ∧ d.h id = some (.box v' L)) ∨
  (∃ e xs ys, c.h id = some (.row e xs) ∧ d.h id = some (.row e ys) ∧ List.length ys = List.length xs)))
theorem Rep1.tr {c d : Cx} (k : Tr c d) {v : AV} {cs : List Value} (h : Rep1 c v cs) : Rep1 d v cs := by
 cases v with
 | nilS e => exact h
 | own id =>
  obtain ⟨hn, A, n, cap, hc, h⟩ := h
  refine ⟨Nat.lt_of_lt_of_le hn k.nx, A, n, cap, hc, ?_⟩
  rcases k.ids id hn with e | ⟨e, eM⟩ | ⟨hM, e⟩
  ·exact .inl e
  ·rcases h with h | h1
   ·rw [e] at h; cases h
   ·rw [eM] at h1; cases h1
  ·rcases h with h | h1
   ·rcases e with ⟨_, _, _, e, _⟩ | ⟨_, _, _, e, _⟩ <;> simp [h] at e
   ·exact .inr (hM.row h1)
 | ptr id p =>
  obtain ⟨hn, z, hc, h⟩ := h
  refine ⟨Nat.lt_of_lt_of_le hn k.nx, z, hc, ?_⟩
  rcases k.ids id hn with e | ⟨e, eM⟩ | ⟨hM, e⟩
  ·exact .inl e
  ·rcases h with h | ⟨_, _, _, _, _, _, h2, _⟩
   ·rw [e] at h; cases h
   ·rw [e] at h2; cases h2
  ·rcases h with h | ⟨b, v, L, o, u, h1, h2, h3, h4⟩
   ·rcases e with ⟨_, _, _, e, _⟩ | ⟨_, _, _, e, _⟩ <;> simp [h] at e
   ·rcases e with ⟨_, v', _, e1, e2⟩ | ⟨_, _, _, e, _⟩
    ·rw [h2] at e1
     injection e1 with e1
     injection e1 with e0 e1
     subst e1
     exact .inr ⟨b, v', L, o, u, hM.at.trans h1, e2, h3, h4⟩
    ·simp [h2] at e
 | mref id =>
  obtain ⟨hn, z, hc, h⟩ := h
  refine ⟨Nat.lt_of_lt_of_le hn k.nx, z, hc, ?_⟩
  rcases k.ids id hn with e | ⟨e, eM⟩ | ⟨hM, e⟩
  ·exact .inl e
  ·rcases h with h | ⟨_, _, _, _, h2, _⟩
   ·rw [e] at h; cases h
   ·rw [e] at h2; cases h2
  ·rcases h with h | ⟨b, v, L, h1, h2, h3⟩
   ·rcases e with ⟨_, _, _, e, _⟩ | ⟨_, _, _, e, _⟩ <;> simp [h] at e
   ·rcases e with ⟨_, v', _, e1, e2⟩ | ⟨_, _, _, e, _⟩
    ·rw [h2] at e1
     injection e1 with e1
     injection e1 with e0 e1
     subst e1
     exact .inr ⟨b, v', L, hM.at.trans h1, e2, h3⟩
    ·simp [h2] at e
 | rptr t x =>
  obtain ⟨b, o, cs', rfl, hb, hz, hr, hm⟩ := h
  obtain ⟨hz', hw⟩ := k.held b hb hz
  exact ⟨b, o, cs', rfl, lt_of_get hb hw, hz', hr.held k.held, fun j v hv => (cell_of_heap hw).trans (hm j v hv)⟩
 | unkB => exact h
 | dref id =>
  obtain ⟨hn, A, n, cap, hc, h⟩ := h
  refine ⟨Nat.lt_of_lt_of_le hn k.nx, A, n, cap, hc, ?_⟩
  rcases k.ids id hn with e | ⟨e, eM⟩ | ⟨hM, e⟩
  ·exact .inl e
  ·rcases h with h | ⟨ex, h1⟩
   ·rw [e] at h; cases h
   ·rw [eM] at h1; cases h1
  ·rcases h with h | ⟨ex, h1⟩
   ·rcases e with ⟨_, _, _, e, _⟩ | ⟨_, _, _, e, _⟩ <;> simp [h] at e
   ·exact .inr (hM.rows h1)
 | dptr id i =>
  obtain ⟨hn, z, hc, h⟩ := h
  refine ⟨Nat.lt_of_lt_of_le hn k.nx, z, hc, ?_⟩
  rcases k.ids id hn with e | ⟨e, eM⟩ | ⟨hM, e⟩
  ·exact .inl e
  ·rcases h with h | ⟨b, o, n, cap, ex, h1, _⟩
   ·rw [e] at h; cases h
   ·rw [eM] at h1; cases h1
  ·rcases h with h | ⟨b, o, n, cap, ex, h1, h2, h3, h4⟩
   ·rcases e with ⟨_, _, _, e, _⟩ | ⟨_, _, _, e, _⟩ <;> simp [h] at e
   ·obtain ⟨ex', q⟩ := hM.rows h1
    exact .inr ⟨b, o, n, cap, ex', q, h2, h3, h4⟩
 | tptr id i m =>
  obtain ⟨hn, z, hc, h⟩ := h
  refine ⟨Nat.lt_of_lt_of_le hn k.nx, z, hc, ?_⟩
  rcases k.ids id hn with e | ⟨e, eM⟩ | ⟨hM, e⟩
  ·exact .inl e
  ·rcases h with h | ⟨b, o, n, cap, ex, h1, _⟩
   ·rw [e] at h; cases h
   ·rw [eM] at h1; cases h1
  ·rcases h with h | ⟨b, o, n, cap, ex, h1, h2, h3, h4⟩
   ·rcases e with ⟨_, _, _, e, _⟩ | ⟨_, _, _, e, _⟩ <;> simp [h] at e
   ·obtain ⟨ex', q⟩ := hM.rows h1
    exact .inr ⟨b, o, n, cap, ex', q, h2, h3, h4⟩
 | view id a n =>
  obtain ⟨hn, z, m, cap', hc, hnm, ha, hm', h⟩ := h
  refine ⟨Nat.lt_of_lt_of_le hn k.nx, z, m, cap', hc, hnm, ha, hm', ?_⟩
  rcases k.ids id hn with e | ⟨e, eM⟩ | ⟨hM, e⟩
  ·exact .inl e
  ·rcases h with h | ⟨_, _, _, _, _, _, h2, _⟩
   ·rw [e] at h; cases h
   ·rw [e] at h2; cases h2
  ·rcases h with h | ⟨A, len, cap, t, xs, h1, h2, h3, h4, h5⟩
   ·rcases e with ⟨_, _, _, e, _⟩ | ⟨_, _, _, e, _⟩ <;> simp [h] at e
   ·rcases e with ⟨_, _, _, e, _⟩ | ⟨t', ys, zs, e1, e2, e3⟩
    ·simp [h2] at e
    ·rw [h2] at e1
     injection e1 with e1
     injection e1 with e0 e1
     subst e0
     have e1 := eq_of_heq e1
     subst e1
     exact .inr ⟨A, len, cap, t, zs, hM.row h1, e2, by omega, h4, h5⟩
 | eptr id i p =>
  obtain ⟨hn, z, hc, h⟩ := h
  refine ⟨Nat.lt_of_lt_of_le hn k.nx, z, hc, ?_⟩
  rcases k.ids id hn with e | ⟨e, eM⟩ | ⟨hM, e⟩
  ·exact .inl e
  ·rcases h with h | ⟨_, _, _, _, _, _, _, _, _, h2, _⟩
   ·rw [e] at h; cases h
   ·rw [e] at h2; cases h2
  ·rcases h with h | ⟨b, o, n, cap, t, xs, q, u, h1, h2, h3, h4, h5, h6⟩
   ·rcases e with ⟨_, _, _, e, _⟩ | ⟨_, _, _, e, _⟩ <;> simp [h] at e
   ·rcases e with ⟨_, _, _, e, _⟩ | ⟨t', ys, zs, e1, e2, e3⟩
    ·simp [h2] at e
    ·rw [h2] at e1
     injection e1 with e1
     injection e1 with e0 e1
     subst e0
     have e1 := eq_of_heq e1
     subst e1
     exact .inr ⟨b, o, n, cap, t, zs, q, u, hM.row h1, e2, h3, by omega, h5, h6⟩
 | _ => exact h.elim
mutual
theorem RepC.tr {c d : Cx} (k : Tr c d) : ∀ (v : AV) (cs : List Value), RepC c v cs → RepC d v cs
 | .undef, _, h => by simp only [RepC] at h ⊢; exact h
 | .unit, _, h => by simp only [RepC] at h ⊢; exact h
 | .data t x, _, h => by simp only [RepC] at h ⊢; exact h.held k.held
 | .fn f a, _, h => by
  simp only [RepC] at h ⊢
  obtain ⟨vs, e, h⟩ := h
  exact ⟨vs, e, RepT.tr k a _ h⟩
 | .st b, cs, h => by simp only [RepC] at h ⊢; exact RepC.tr k b cs h
 | .pr a r, _, h => by
  simp only [RepC] at h ⊢
  obtain ⟨c1, c2, e, h1, h2⟩ := h
  exact ⟨c1, c2, e, RepC.tr k a c1 h1, RepC.tr k r c2 h2⟩
 | .tup _, _, h => by simp only [RepC] at h
 | .nilS _, _, h => by simp only [RepC] at h ⊢; exact h.tr k
 | .own _, _, h => by simp only [RepC] at h ⊢; exact h.tr k
 | .ptr _ _, _, h => by simp only [RepC] at h ⊢; exact h.tr k
 | .rptr _ _, _, h => by simp only [RepC] at h ⊢; exact h.tr k
 | .eptr _ _ _, _, h => by simp only [RepC] at h ⊢; exact h.tr k
 | .view _ _ _, _, h => by simp only [RepC] at h ⊢; exact h.tr k
 | .unkB, _, h => by simp only [RepC] at h ⊢; exact h.tr k
 | .mref _, _, h => by simp only [RepC] at h ⊢; exact h.tr k
 | .dref _, _, h => by simp only [RepC] at h ⊢; exact h.tr k
 | .dptr _ _, _, h => by simp only [RepC] at h ⊢; exact h.tr k
 | .tptr _ _ _, _, h => by simp only [RepC] at h ⊢; exact h.tr k
theorem RepV.tr {c d : Cx} (k : Tr c d) : ∀ (v : AV) (u : Value), RepV c v u → RepV d v u
 | .undef, _, _ => by simp only [RepV]
 | .unit, _, h => by simp only [RepV] at h
 | .data t x, _, h => by
  simp only [RepV] at h ⊢
  rcases h with ⟨e, cs, rfl, h⟩ | ⟨e, h⟩
  ·exact .inl ⟨e, cs, rfl, h.held k.held⟩
  ·exact .inr ⟨e, h.held k.held⟩
 | .fn f a, _, h => by
  simp only [RepV] at h ⊢
  obtain ⟨vs, e, h⟩ := h
  exact ⟨vs, e, RepT.tr k a _ h⟩
 | .st b, _, h => by
  simp only [RepV] at h ⊢
  obtain ⟨cs, e, h⟩ := h
  exact ⟨cs, e, RepC.tr k b _ h⟩
 | .pr _ _, _, h => by simp only [RepV] at h
 | .tup b, _, h => by
  simp only [RepV] at h ⊢
  obtain ⟨vs, e, h⟩ := h
  exact ⟨vs, e, RepT.tr k b _ h⟩
 | .nilS _, _, h => by simp only [RepV] at h ⊢; exact h.tr k
 | .own _, _, h => by simp only [RepV] at h ⊢; exact h.tr k
 | .ptr _ _, _, h => by simp only [RepV] at h ⊢; exact h.tr k
 | .rptr _ _, _, h => by simp only [RepV] at h ⊢; exact h.tr k
 | .eptr _ _ _, _, h => by simp only [RepV] at h ⊢; exact h.tr k
 | .view _ _ _, _, h => by simp only [RepV] at h ⊢; exact h.tr k
 | .unkB, _, h => by simp only [RepV] at h ⊢; exact h.tr k
 | .mref _, _, h => by simp only [RepV] at h ⊢; exact h.tr k
 | .dref _, _, h => by simp only [RepV] at h ⊢; exact h.tr k
 | .dptr _ _, _, h => by simp only [RepV] at h ⊢; exact h.tr k
 | .tptr _ _ _, _, h => by simp only [RepV] at h ⊢; exact h.tr k
theorem RepT.tr {c d : Cx} (k : Tr c d) : ∀ (v : AV) (us : List Value), RepT c v us → RepT d v us
 | .unit, _, h => by simp only [RepT] at h ⊢; exact h
 | .pr a r, _, h => by
  simp only [RepT] at h ⊢
  obtain ⟨v, vs, e, h1, h2⟩ := h
  exact ⟨v, vs, e, RepV.tr k a v h1, RepT.tr k r vs h2⟩
 | .undef, _, h => by simp only [RepT] at h ⊢; exact h
 | .tup b, _, h => by
  simp only [RepT] at h ⊢
  obtain ⟨vs, e, h⟩ := h
  exact ⟨vs, e, RepT.tr k b _ h⟩
 | .data t x, _, h => by
  simp only [RepT] at h ⊢
  obtain ⟨v, rfl, h⟩ := h
  refine ⟨v, rfl, ?_⟩
  rcases h with ⟨e, cs, rfl, h⟩ | ⟨e, h⟩
  ·exact .inl ⟨e, cs, rfl, h.held k.held⟩
  ·exact .inr ⟨e, h.held k.held⟩
 | .st b, _, h => by
  simp only [RepT] at h ⊢
  obtain ⟨cs, e, h⟩ := h
  exact ⟨cs, e, RepC.tr k b _ h⟩
 | .fn f a, _, h => by
  simp only [RepT] at h ⊢
  obtain ⟨vs, e, h⟩ := h
  exact ⟨vs, e, RepT.tr k a _ h⟩
 | .nilS _, _, h => by simp only [RepT] at h ⊢; obtain ⟨v, e, h⟩ := h; exact ⟨v, e, h.tr k⟩
 | .own _, _, h => by simp only [RepT] at h ⊢; obtain ⟨v, e, h⟩ := h; exact ⟨v, e, h.tr k⟩
 | .ptr _ _, _, h => by simp only [RepT] at h ⊢; obtain ⟨v, e, h⟩ := h; exact ⟨v, e, h.tr k⟩
 | .rptr _ _, _, h => by simp only [RepT] at h ⊢; obtain ⟨v, e, h⟩ := h; exact ⟨v, e, h.tr k⟩
 | .eptr _ _ _, _, h => by simp only [RepT] at h ⊢; obtain ⟨v, e, h⟩ := h; exact ⟨v, e, h.tr k⟩
 | .view _ _ _, _, h => by simp only [RepT] at h ⊢; obtain ⟨v, e, h⟩ := h; exact ⟨v, e, h.tr k⟩
 | .unkB, _, h => by simp only [RepT] at h ⊢; obtain ⟨v, e, h⟩ := h; exact ⟨v, e, h.tr k⟩
 | .mref _, _, h => by simp only [RepT] at h ⊢; obtain ⟨v, e, h⟩ := h; exact ⟨v, e, h.tr k⟩
 | .dref _, _, h => by simp only [RepT] at h ⊢; obtain ⟨v, e, h⟩ := h; exact ⟨v, e, h.tr k⟩
 | .dptr _ _, _, h => by simp only [RepT] at h ⊢; obtain ⟨v, e, h⟩ := h; exact ⟨v, e, h.tr k⟩
 | .tptr _ _ _, _, h => by simp only [RepT] at h ⊢; obtain ⟨v, e, h⟩ := h; exact ⟨v, e, h.tr k⟩
end
theorem Held.refl (Z : Nat → Prop) (w : World) : Held Z Z w w := fun _ _ hz => ⟨hz, rfl⟩
theorem Held.trans {Z1 Z2 Z3 : Nat → Prop} {w1 w2 w3 : World} (h : Held Z1 Z2 w1 w2) (k : Held Z2 Z3 w2 w3) : Held Z1 Z3 w1 w3 := fun b hb hz => by
 obtain ⟨hz2, e⟩ := h b hb hz
 obtain ⟨hz3, e'⟩ := k b (lt_of_get hb e) hz2
 exact ⟨hz3, e'.trans e⟩
theorem Tr.trans {c d e : Cx} (h : Tr c d) (k : Tr d e) : Tr c e := by
 refine ⟨h.held.trans k.held, Nat.le_trans h.nx k.nx, fun id hid => ?_⟩
 rcases k.ids id (Nat.lt_of_lt_of_le hid h.nx) with q | ⟨q, _⟩ | ⟨qM, q⟩
 ·exact .inl q
 ·rcases h.ids id hid with r | r | ⟨_, r⟩
  ·rw [q] at r; cases r
  ·exact .inr (.inl r)
  ·rcases r with ⟨_, _, _, _, r⟩ | ⟨_, _, _, _, r, _⟩ <;> (rw [q] at r; cases r)
 ·rcases h.ids id hid with r | r | ⟨rM, r⟩
  ·rcases q with ⟨_, _, _, q, _⟩ | ⟨_, _, _, q, _⟩ <;> simp [r] at q
  ·exact .inr (.inl r)
  ·refine .inr (.inr ⟨rM.trans qM, ?_⟩)
   rcases q with ⟨v, v', L, q1, q2⟩ | ⟨t, xs, ys, q1, q2, q3⟩
   ·rcases r with ⟨u, u', L', r1, r2⟩ | ⟨t, xs, ys, r1, r2, r3⟩
    ·rw [r2] at q1
     injection q1 with q1
     injection q1 with _ q1
     subst q1
     exact .inl ⟨u, v', L', r1, q2⟩
    ·simp [r2] at q1
   ·rcases r with ⟨u, u', L', r1, r2⟩ | ⟨t', xs', ys', r1, r2, r3⟩
    ·simp [r2] at q1
    ·rw [r2] at q1
     injection q1 with q1
     injection q1 with q0 q1
     subst q0
     have q1 := eq_of_heq q1
     subst q1
     exact .inr ⟨t', xs', ys, r1, q2, q3.trans r3⟩
theorem RepD.one {Z : Nat → Prop} {w : World} : ∀ {t : Ty} {x : t.D} {cs : List Value}, RepD Z w t x cs → ∀ v ∈ cs, v.oneCell' = true := by
 intro t
 induction t with
 | unit => intro x cs h; simp only [RepD] at h; subst h; simp
 | bool => intro x cs h; simp only [RepD] at h; subst h; simp [Value.oneCell']
 | str => intro x cs h; simp only [RepD] at h; subst h; simp [Value.oneCell']
 | opq => intro x cs h; exact h.elim
 | int k => intro x cs h; simp only [RepD] at h; subst h; simp [Value.oneCell']
 | slice e ih => intro x cs h; simp only [RepD] at h; obtain ⟨A, cap, rfl, _⟩ := h; simp [Value.oneCell']
 | st b ih => intro x cs h; simp only [RepD] at h; exact ih h
 | pair a b iha ihb =>
  intro x cs h
  simp only [RepD] at h
  obtain ⟨c1, c2, rfl, h1, h2⟩ := h
  intro v hv
  rcases List.mem_append.1 hv with hv | hv
  ·exact iha h1 v hv
  ·exact ihb h2 v hv
 | map k v _ _ => intro x cs h; simp only [RepD] at h; obtain ⟨es, rfl, _⟩ := h; simp [mapCell, Value.oneCell']
 | bld T e => intro x cs h; simp only [RepD] at h; subst h; simp [Value.oneCell']
 | dmap k v _ _ => intro x cs h; simp only [RepD] at h; obtain ⟨es, rfl, _⟩ := h; simp [mapCell, Value.oneCell']
 | slf => intro x cs h; simp only [RepD] at h; obtain ⟨n, h⟩ := h; exact h.one
theorem Rep1.one {c : Cx} {v : AV} {cs : List Value} (h : Rep1 c v cs) : ∃ u, cs = [u] ∧ u.oneCell' = true := by
 cases v with
 | nilS e => obtain ⟨A, rfl⟩ := h; exact ⟨_, rfl, rfl⟩
 | own id => obtain ⟨_, A, n, cap, rfl, _⟩ := h; exact ⟨_, rfl, rfl⟩
 | ptr id p => obtain ⟨_, q, rfl, _⟩ := h; exact ⟨_, rfl, rfl⟩
 | rptr t x => obtain ⟨b, o, d, rfl, _⟩ := h; exact ⟨_, rfl, rfl⟩
 | eptr id i p => obtain ⟨_, q, rfl, _⟩ := h; exact ⟨_, rfl, rfl⟩
 | view id a n => obtain ⟨_, q, m, cap', rfl, _⟩ := h; exact ⟨_, rfl, rfl⟩
 | unkB => obtain ⟨b, rfl⟩ := h; exact ⟨_, rfl, rfl⟩
 | mref id => obtain ⟨_, q, rfl, _⟩ := h; exact ⟨_, rfl, rfl⟩
 | dref id => obtain ⟨_, A, n, cap, rfl, _⟩ := h; exact ⟨_, rfl, rfl⟩
 | dptr id i => obtain ⟨_, q, rfl, _⟩ := h; exact ⟨_, rfl, rfl⟩
 | tptr id i m => obtain ⟨_, q, rfl, _⟩ := h; exact ⟨_, rfl, rfl⟩
 | _ => exact h.elim
theorem RepC.one {c : Cx} : ∀ (v : AV) (cs : List Value), RepC c v cs → ∀ u ∈ cs, u.oneCell' = true
 | .undef, _, h => by simp only [RepC] at h; obtain ⟨v, rfl, e⟩ := h; simpa using e
 | .unit, _, h => by simp only [RepC] at h; subst h; simp
 | .data t x, _, h => by simp only [RepC] at h; exact h.one
 | .fn f a, _, h => by simp only [RepC] at h; obtain ⟨vs, rfl, h⟩ := h; simp [Value.oneCell']
 | .st b, cs, h => by simp only [RepC] at h; exact RepC.one b cs h
 | .pr a r, _, h => by
  simp only [RepC] at h
  obtain ⟨c1, c2, rfl, h1, h2⟩ := h
  intro v hv
  rcases List.mem_append.1 hv with hv | hv
  ·exact RepC.one a c1 h1 v hv
  ·exact RepC.one r c2 h2 v hv
 | .tup _, _, h => by simp only [RepC] at h
 | .nilS _, _, h => by simp only [RepC] at h; obtain ⟨u, rfl, e⟩ := h.one; simpa using e
 | .own _, _, h => by simp only [RepC] at h; obtain ⟨u, rfl, e⟩ := h.one; simpa using e
 | .ptr _ _, _, h => by simp only [RepC] at h; obtain ⟨u, rfl, e⟩ := h.one; simpa using e
 | .rptr _ _, _, h => by simp only [RepC] at h; obtain ⟨u, rfl, e⟩ := h.one; simpa using e
 | .eptr _ _ _, _, h => by simp only [RepC] at h; obtain ⟨u, rfl, e⟩ := h.one; simpa using e
 | .view _ _ _, _, h => by simp only [RepC] at h; obtain ⟨u, rfl, e⟩ := h.one; simpa using e
 | .unkB, _, h => by simp only [RepC] at h; obtain ⟨u, rfl, e⟩ := h.one; simpa using e
 | .mref _, _, h => by simp only [RepC] at h; obtain ⟨u, rfl, e⟩ := h.one; simpa using e
 | .dref _, _, h => by simp only [RepC] at h; obtain ⟨u, rfl, e⟩ := h.one; simpa using e
 | .dptr _ _, _, h => by simp only [RepC] at h; obtain ⟨u, rfl, e⟩ := h.one; simpa using e
 | .tptr _ _ _, _, h => by simp only [RepC] at h; obtain ⟨u, rfl, e⟩ := h.one; simpa using e
theorem oneCell_cells {v : Value} (h : v.oneCell' = true) : v.cells = #[v] := by
 cases v <;> first | rfl | simp [Value.oneCell'] at h
theorem repV_cells {c : Cx} : ∀ (a : AV) (v : Value), a.solid = true → RepV c a v → RepC c a v.cells.toList
 | .undef, _, s, _ => by simp [AV.solid] at s
 | .unit, _, _, h => by simp only [RepV] at h
 | .data t x, v, _, h => by
  simp only [RepV, RepC] at h ⊢
  rcases h with ⟨_, cs, rfl, h⟩ | ⟨_, h⟩
  ·exact h
  ·rw [oneCell_cells (h.one v (by simp))]; exact h
 | .fn f a, _, _, h => by
  simp only [RepV, RepC] at h ⊢
  obtain ⟨vs, rfl, h⟩ := h
  exact ⟨vs, rfl, h⟩
 | .st b, _, _, h => by
  simp only [RepV, RepC] at h ⊢
  obtain ⟨cs, rfl, h⟩ := h
  exact h
 | .pr _ _, _, _, h => by simp only [RepV] at h
 | .tup b, _, s, _ => by simp [AV.solid] at s
 | .nilS _, v, _, h => by simp only [RepV, RepC] at h ⊢; obtain ⟨u, e, q⟩ := h.one; injection e with e; subst e; rw [oneCell_cells q]; exact h
 | .own _, v, _, h => by simp only [RepV, RepC] at h ⊢; obtain ⟨u, e, q⟩ := h.one; injection e with e; subst e; rw [oneCell_cells q]; exact h
 | .ptr _ _, v, _, h => by simp only [RepV, RepC] at h ⊢; obtain ⟨u, e, q⟩ := h.one; injection e with e; subst e; rw [oneCell_cells q]; exact h
 | .rptr _ _, v, _, h => by simp only [RepV, RepC] at h ⊢; obtain ⟨u, e, q⟩ := h.one; injection e with e; subst e; rw [oneCell_cells q]; exact h
 | .eptr _ _ _, v, _, h => by simp only [RepV, RepC] at h ⊢; obtain ⟨u, e, q⟩ := h.one; injection e with e; subst e; rw [oneCell_cells q]; exact h
 | .view _ _ _, v, _, h => by simp only [RepV, RepC] at h ⊢; obtain ⟨u, e, q⟩ := h.one; injection e with e; subst e; rw [oneCell_cells q]; exact h
 | .unkB, v, _, h => by simp only [RepV, RepC] at h ⊢; obtain ⟨u, e, q⟩ := h.one; injection e with e; subst e; rw [oneCell_cells q]; exact h
 | .mref _, v, _, h => by simp only [RepV, RepC] at h ⊢; obtain ⟨u, e, q⟩ := h.one; injection e with e; subst e; rw [oneCell_cells q]; exact h
 | .dref _, v, _, h => by simp only [RepV, RepC] at h ⊢; obtain ⟨u, e, q⟩ := h.one; injection e with e; subst e; rw [oneCell_cells q]; exact h
 | .dptr _ _, v, _, h => by simp only [RepV, RepC] at h ⊢; obtain ⟨u, e, q⟩ := h.one; injection e with e; subst e; rw [oneCell_cells q]; exact h
 | .tptr _ _ _, v, _, h => by simp only [RepV, RepC] at h ⊢; obtain ⟨u, e, q⟩ := h.one; injection e with e; subst e; rw [oneCell_cells q]; exact h
end Go.PG
end
section
namespace Go.PG
open Go.RowKit
def BldIs (w : World) (T e b : Nat) (x : ByteArray) (ex : Nat → Prop) : Prop :=
 ∃ p v, (p = .pointer none ∨ p = .pointer (some ⟨b, 0, none⟩)) ∧ w.heap[b]? = some (.cells #[p, v] T (0, 0)) ∧ w.ownsRowF 0 e 1 v x.size (Lib.strCells x) ∧ v.ownBlock ≠ some b ∧ ∀ g, ex g ↔ v.ownBlock = some g
abbrev DEnt := MapEntry × Option (List (List Value))
def RowOwn (w : World) (sz : Nat) (v : Value) (rows : List (List Value)) : Prop :=
 ∃ A cap, v = .slice A rows.length cap ∧ rows.length ≤ cap ∧ (cap = 0 ∨ cap ≠ 0 ∧ ∃ b o cs el, A = some ⟨b, o, none⟩ ∧ w.heap[b]? = some (.cells cs el (0, 0)) ∧ o + cap * sz ≤ cs.size ∧
  ∀ j d, rows[j]? = some d → Mem w b (o + j * sz) d)
def valBlk : Value → Option Nat
 | .slice (some a) _ (_ + 1) => some a.block
 | _ => none
def DEnt.blk (t : DEnt) : Option Nat := match t.2 with
 | none => none
 | some _ => valBlk t.1.val
def DEnt.cell (t : DEnt) : Value × Value := (t.1.key, rowCell t.2)
structure DmIs (w : World) (sz b : Nat) (ts : List DEnt) (ex : Nat → Prop) : Prop where
 row : ∀ (i : Nat) (t : DEnt), ts[i]? = some t → ∀ rows, t.2 = some rows → RowOwn w sz t.1.val rows
 dist : ∀ (i j : Nat) (t u : DEnt) (c : Nat), ts[i]? = some t → ts[j]? = some u → t.blk = some c → u.blk = some c → i = j
 ne : ∀ (i : Nat) (t : DEnt), ts[i]? = some t → t.blk ≠ some b
 ex : ∀ c, ex c ↔ ∃ (i : Nat) (t : DEnt), ts[i]? = some t ∧ t.blk = some c
theorem RowOwn.lt {w : World} {sz : Nat} {v : Value} {rows : List (List Value)} (h : RowOwn w sz v rows) {c : Nat} (hc : valBlk v = some c) : c < w.heap.size := by
 obtain ⟨A, cap, rfl, _, h⟩ := h
 rcases h with rfl | ⟨h0, b, o, cs, el, rfl, h1, _⟩
 ·cases A <;> cases hc
 ·cases cap with
  | zero => exact absurd rfl h0
  | succ n =>
   injection hc with hc
   subst hc
   exact (Array.getElem?_eq_some_iff.1 h1).1
theorem RowOwn.stay {w w' : World} {sz : Nat} {v : Value} {rows : List (List Value)} (h : RowOwn w sz v rows) (hk : ∀ c, valBlk v = some c → w'.heap[c]? = w.heap[c]?) : RowOwn w' sz v rows := by
 obtain ⟨A, cap, rfl, h1, h⟩ := h
 refine ⟨A, cap, rfl, h1, ?_⟩
 rcases h with h | ⟨h0, b, o, cs, el, rfl, h2, h3, h4⟩
 ·exact .inl h
 ·have hb : w'.heap[b]? = w.heap[b]? := hk b (by cases cap with
   | zero => exact absurd rfl h0
   | succ n => rfl)
  exact .inr ⟨h0, b, o, cs, el, rfl, hb.trans h2, h3, fun j d hd i v hv => (cell_of_heap hb).trans (h4 j d hd i v hv)⟩
def RowsIs (w : World) (k : Bk) (b sz : Nat) (cs : List Value) : Prop :=
 ∃ A n cap ex, k = .rows A n cap ex ∧ (((∀ c, ¬ ex c) ∧ ∃ u, cs = [.bool u]) ∨
  ∃ (ts : List DEnt) (ex0 : Nat → Prop), n = ts.length ∧ n ≤ cap ∧ cs = [mapCell (ts.map DEnt.cell)] ∧ DmIs w sz b ts ex0 ∧ (∀ (i : Nat) (t : DEnt), ts[i]? = some t → t.1.val.oneCell' = true) ∧
   (cap = 0 ∧ (∀ c, ex c ↔ ex0 c) ∨ cap ≠ 0 ∧ ∃ o arr el, A = some ⟨b, o, none⟩ ∧ w.heap[b]? = some (.cells arr el (0, 0)) ∧ o + cap ≤ arr.size ∧
    (∀ (i : Nat) (t : DEnt), ts[i]? = some t → arr[o + i]? = some t.1.val) ∧ ∀ c, ex c ↔ c = b ∨ ex0 c))
theorem DmIs.lt {w : World} {sz b : Nat} {ts : List DEnt} {ex : Nat → Prop} (hd : DmIs w sz b ts ex) {x : Nat} (hx : ex x) : x < w.heap.size := by
 obtain ⟨i, t, h1, h2⟩ := (hd.ex x).1 hx
 cases q : t.2 with
 | none => rw [DEnt.blk, q] at h2; cases h2
 | some rows => rw [DEnt.blk, q] at h2; exact (hd.row i t h1 rows q).lt h2
theorem DmIs.stay' {w w' : World} {sz b : Nat} {ts : List DEnt} {ex : Nat → Prop} (hd : DmIs w sz b ts ex) (hk : ∀ c, ex c → w'.heap[c]? = w.heap[c]?) : DmIs w' sz b ts ex :=
 ⟨fun i t hi rows hr => (hd.row i t hi rows hr).stay fun c hc => hk c ((hd.ex c).2 ⟨i, t, hi, by rw [DEnt.blk, hr]; exact hc⟩), hd.dist, hd.ne, hd.ex⟩
theorem rows_has {A : Option Addr} {n cap : Nat} {ex : Nat → Prop} {x : Nat} : (Bk.rows A n cap ex).has x ↔ ex x := by
 constructor
 ·rintro (q | q)
  ·cases q
  ·exact q
 ·exact fun q => .inr q
theorem RowsIs.lt {w : World} {k : Bk} {b sz : Nat} {cs : List Value} (h : RowsIs w k b sz cs) {x : Nat} (hx : k.has x) : x < w.heap.size := by
 obtain ⟨A, n, cap, ex, rfl, ⟨h, _⟩ | ⟨ts, ex0, _, _, _, hd, _, ⟨_, h⟩ | ⟨_, o, arr, el, _, h1, _, _, h⟩⟩⟩ := h
 ·exact (h x (rows_has.1 hx)).elim
 ·exact hd.lt ((h x).1 (rows_has.1 hx))
 ·rcases (h x).1 (rows_has.1 hx) with rfl | q
  ·exact (Array.getElem?_eq_some_iff.1 h1).1
  ·exact hd.lt q
theorem RowsIs.stay {w w' : World} {k : Bk} {b sz : Nat} {cs : List Value} (h : RowsIs w k b sz cs) (hk : ∀ x, k.has x → w'.heap[x]? = w.heap[x]?) : RowsIs w' k b sz cs := by
 obtain ⟨A, n, cap, ex, rfl, ⟨h, u⟩ | ⟨ts, ex0, h1, h2, h3, hd, h9, ⟨h4, h⟩ | ⟨h4, o, arr, el, h5, h6, h7, h8, h⟩⟩⟩ := h
 ·exact ⟨A, n, cap, ex, rfl, .inl ⟨h, u⟩⟩
 ·exact ⟨A, n, cap, ex, rfl, .inr ⟨ts, ex0, h1, h2, h3, hd.stay' fun c hc => hk c (rows_has.2 ((h c).2 hc)), h9, .inl ⟨h4, h⟩⟩⟩
 ·exact ⟨A, n, cap, ex, rfl, .inr ⟨ts, ex0, h1, h2, h3, hd.stay' fun c hc => hk c (rows_has.2 ((h c).2 (.inr hc))), h9, .inr ⟨h4, o, arr, el, h5, (hk b (rows_has.2 ((h b).2 (.inl rfl)))).trans h6, h7, h8, h⟩⟩⟩
def tieSz : Ty → Nat
 | .pair _ (.pair _ (.pair _ (.dmap k _))) => k.size
 | _ => 0
def TieIs (w : World) (k : Bk) (b sz : Nat) (cs : List Value) : Prop :=
 ∃ (A : Option Addr) (n cap : Nat) (ex : Nat → Prop) (hd : Value) (m : Int) (t : Bool) (gs : List Value), k = .rows A n cap ex ∧ cs = [hd, .int .i64 m, .bool t, mapCell (gs.map fun g => (g, rowCell none))] ∧ n = gs.length ∧ n ≤ cap ∧
  (cap = 0 ∧ (∀ c, ¬ ex c) ∨ cap ≠ 0 ∧ ∃ o arr el, A = some ⟨b, o, none⟩ ∧ w.heap[b]? = some (.cells arr el (0, 0)) ∧ o + cap * sz ≤ arr.size ∧ (∀ c, ex c ↔ c = b) ∧
   ∀ (i : Nat) (g : Value), gs[i]? = some g → ∃ c0 rest, g = .agg (c0 :: rest).toArray ∧ rest.length + 1 = sz ∧ Mem w b (o + i * sz) ((if t = true ∧ (i : Int) = m then hd else c0) :: rest))
theorem TieIs.lt {w : World} {k : Bk} {b sz : Nat} {cs : List Value} (h : TieIs w k b sz cs) {x : Nat} (hx : k.has x) : x < w.heap.size := by
 obtain ⟨A, n, cap, ex, hd, m, t, gs, rfl, _, _, _, ⟨_, h⟩ | ⟨_, o, arr, el, _, h1, _, h, _⟩⟩ := h
 ·exact (h x (rows_has.1 hx)).elim
 ·have := (h x).1 (rows_has.1 hx)
  subst this
  exact (Array.getElem?_eq_some_iff.1 h1).1
theorem TieIs.stay {w w' : World} {k : Bk} {b sz : Nat} {cs : List Value} (h : TieIs w k b sz cs) (hk : ∀ x, k.has x → w'.heap[x]? = w.heap[x]?) : TieIs w' k b sz cs := by
 obtain ⟨A, n, cap, ex, hd, m, t, gs, rfl, h1, h2, h3, h4 | ⟨h4, o, arr, el, h5, h6, h7, h8, h9⟩⟩ := h
 ·exact ⟨A, n, cap, ex, hd, m, t, gs, rfl, h1, h2, h3, .inl h4⟩
 ·have hb := hk b (rows_has.2 ((h8 b).2 rfl))
  refine ⟨A, n, cap, ex, hd, m, t, gs, rfl, h1, h2, h3, .inr ⟨h4, o, arr, el, h5, hb.trans h6, h7, h8, fun i g hg => ?_⟩⟩
  obtain ⟨c0, rest, g1, g2, g3⟩ := h9 i g hg
  exact ⟨c0, rest, g1, g2, fun j v hv => (cell_of_heap hb).trans (g3 j v hv)⟩
def Holds (w : World) (k : Bk) (b : Nat) (L : Ty) (cs : List Value) : Prop := match L with
 | .map _ _ => ∃ es clk, k = .box b ∧ w.heap[b]? = some (.map es clk) ∧ cs = [mapCell (es.toList.map fun e => (e.key, e.val))]
 | .bld T e => ∃ x ex, k = .two b ex ∧ cs = [.string x] ∧ BldIs w T e b x ex
 | .dmap _ v => (∃ (ts : List DEnt) (es : Array MapEntry) (clk : Nat) (ex : Nat → Prop), k = .two b ex ∧ w.heap[b]? = some (.map es clk) ∧ es.toList = ts.map Prod.fst ∧ cs = [mapCell (ts.map DEnt.cell)] ∧ DmIs w v.size b ts ex) ∨ RowsIs w k b v.size cs
 | .pair x y => TieIs w k b (tieSz (.pair x y)) cs
 | _ => ∃ el, k = .box b ∧ w.heap[b]? = some (.cells cs.toArray el (0, 0))
theorem Holds.cells {w : World} {k : Bk} {b : Nat} {L : Ty} {cs : List Value} (h : Holds w k b L cs) (hL : L.plain = true) : ∃ el, k = .box b ∧ w.heap[b]? = some (.cells cs.toArray el (0, 0)) := by
 cases L <;> first | exact h | simp [Ty.plain] at hL
theorem Holds.of {w : World} {k : Bk} {b : Nat} {L : Ty} {cs : List Value} (hL : L.plain = true) {el : TypeId} (hk : k = .box b) (h : w.heap[b]? = some (.cells cs.toArray el (0, 0))) : Holds w k b L cs := by
 cases L <;> first | exact ⟨el, hk, h⟩ | simp [Ty.plain] at hL
theorem Holds.at {w : World} {k : Bk} {b : Nat} {L : Ty} {cs : List Value} (h : Holds w k b L cs) (hk : k.at ≠ none) : k.at = some b := by
 cases L <;> simp only [Holds] at h <;> first | (obtain ⟨_, rfl, _⟩ := h; rfl) | (obtain ⟨_, _, rfl, _⟩ := h; rfl) | (rcases h with ⟨_, _, _, _, rfl, _⟩ | ⟨_, _, _, _, rfl, _⟩; rfl; exact absurd rfl hk) | (obtain ⟨_, _, _, _, _, _, _, _, rfl, _⟩ := h; exact absurd rfl hk)
theorem Holds.lt {w : World} {k : Bk} {b : Nat} {L : Ty} {cs : List Value} (h : Holds w k b L cs) {x : Nat} (hx : k.has x) : x < w.heap.size := by
 have blk : ∀ {o}, w.heap[b]? = some o → b < w.heap.size := fun q => (Array.getElem?_eq_some_iff.1 q).1
 have box : k = .box b → ∀ {o}, w.heap[b]? = some o → x < w.heap.size := fun e {o} q => by
  subst e
  rcases hx with hx | hx
  ·injection hx with hx; subst hx; exact blk q
  ·exact hx.elim
 cases L with
 | map kt vt => obtain ⟨es, clk, e, q, _⟩ := h; exact box e q
 | bld T e =>
  obtain ⟨y, ex, rfl, rfl, p, v, _, hb, hown, _, hex⟩ := h
  rcases hx with hx | hx
  ·injection hx with hx; subst hx; exact blk hb
  ·exact (hown.lt x ((hex x).1 hx)).2
 | dmap kt vt =>
  rcases h with ⟨ts, es, clk, ex, rfl, hb, _, _, hd⟩ | h
  ·rcases hx with hx | hx
   ·injection hx with hx; subst hx; exact blk hb
   ·exact hd.lt hx
  ·exact h.lt hx
 | pair x y => exact TieIs.lt h hx
 | _ => obtain ⟨el, e, q⟩ := h; exact box e q
theorem ownsRowF_heap {w w' : World} {B : Nat} {e : TypeId} {v : Value} {n : Nat} {xs : List Value} (h : w.ownsRowF B e 1 v n xs) (hk : ∀ g, v.ownBlock = some g → w'.heap[g]? = w.heap[g]?) : w'.ownsRowF B e 1 v n xs := by
 refine ⟨h.1, ?_⟩
 rcases h.2 with h1 | ⟨g, cap, cur, fz, rfl, h2, h3, h4⟩
 ·exact .inl h1
 ·exact .inr ⟨g, cap, cur, fz, rfl, h2, (hk g rfl).trans h3, h4⟩
theorem Holds.stay {w w' : World} {k : Bk} {b : Nat} {L : Ty} {cs : List Value} (h : Holds w k b L cs) (hk : ∀ x, k.has x → w'.heap[x]? = w.heap[x]?) : Holds w' k b L cs := by
 have hb := fun q : k.at ≠ none => hk b (Bk.at_has (h.at q))
 cases L with
 | map kt vt => obtain ⟨es, clk, e, q, r⟩ := h; exact ⟨es, clk, e, (hb (by rw [e]; simp [Bk.at])).trans q, r⟩
 | bld T e =>
  obtain ⟨y, ex, rfl, rfl, p, v, h1, h2, hown, h4, hex⟩ := h
  exact ⟨y, ex, rfl, rfl, p, v, h1, (hb (by simp [Bk.at])).trans h2, ownsRowF_heap hown fun g hg => hk g (.inr ((hex g).2 hg)), h4, hex⟩
 | dmap kt vt =>
  rcases h with ⟨ts, es, clk, ex, rfl, h2, h3, h4, hd⟩ | h
  ·exact .inl ⟨ts, es, clk, ex, rfl, (hb (by simp [Bk.at])).trans h2, h3, h4, hd.stay' fun c hc => hk c (.inr hc)⟩
  ·exact .inr (h.stay hk)
 | pair x y => exact TieIs.stay h hk
 | _ => obtain ⟨el, e, q⟩ := h; exact ⟨el, e, (hb (by rw [e]; simp [Bk.at])).trans q⟩
def EntOk (c : Cx) (id : Nat) : Ent → Prop
 | .box v L => ∃ b cs, Holds c.w (c.M id) b L cs ∧ fitsT v L = true ∧ RepC c v cs
 | .row e xs => ∃ A cap, c.M id = .row A (List.length xs) cap ∧ List.length xs ≤ cap ∧ (cap = 0 ∨
   cap ≠ 0 ∧ ∃ b o cs el, A = some ⟨b, o, none⟩ ∧ c.w.heap[b]? = some (.cells cs el (0, 0)) ∧ o + cap * e.size ≤ cs.size ∧
    ∀ i x, xs[i]? = some x → ∃ d, RepD c.Z c.w e x d ∧ Mem c.w b (o + i * e.size) d)
 | .rsv => c.M id = .nil
def cx (S : Nat → Prop) (h : Hp) (M : Nat → Bk) (w : World) : Cx := ⟨S, w, h.e, M, h.next⟩
structure HInv (S : Nat → Prop) (B : Nat) (w0 : World) (h : Hp) (M : Nat → Bk) (w : World) : Prop where
 ent : ∀ id e, h.e id = some e → EntOk (cx S h M w) id e
 fresh : ∀ id, h.next ≤ id → h.e id = none
 dist : ∀ i j b, h.e i ≠ none → h.e j ≠ none → (M i).has b → (M j).has b → i = j
 own : ∀ i b, h.e i ≠ none → (M i).has b → B ≤ b
 bel : Below B w0 w
 bsz : B ≤ w.heap.size
 old : ∀ b, S b → b < B
 bw : w0.heap.size = B
structure HStp (S : Nat → Prop) (h : Hp) (M : Nat → Bk) (w : World) (h' : Hp) (M' : Nat → Bk) (w' : World) : Prop where
 tr : Tr (cx S h M w) (cx S h' M' w')
 lk : h'.lk = h.lk
 lock : ∀ id, id < h.next → h.lk id = true → h'.e id = h.e id ∧ M' id = M id
variable {S : Nat → Prop} {B : Nat} {w0 w w' w'' : World} {h h' h'' : Hp} {M M' M'' : Nat → Bk}
theorem HInv.lt (H : HInv S B w0 h M w) {id : Nat} {e : Ent} (he : h.e id = some e) : id < h.next := by
 rcases Nat.lt_or_ge id h.next with q | q
 ·exact q
 ·rw [H.fresh id q] at he; cases he
theorem ids_self (H : HInv S B w0 h M w) (id : Nat) : h.e id = none ∨ (h.e id = some .rsv ∧ M id = .nil) ∨ (SameB (M id) (M id) ∧ ((∃ v v' L, h.e id = some (.box v L) ∧ h.e id = some (.box v' L)) ∨
  (∃ e xs ys, h.e id = some (.row e xs) ∧ h.e id = some (.row e ys) ∧ List.length ys = List.length xs))) := by
 cases he : h.e id with
 | none => exact .inl rfl
 | some e => cases e with
  | box v L => exact .inr (.inr ⟨SameB.rfl, .inl ⟨v, v, L, rfl, rfl⟩⟩)
  | row e xs => exact .inr (.inr ⟨SameB.rfl, .inr ⟨e, xs, xs, rfl, rfl, rfl⟩⟩)
  | rsv => exact .inr (.inl ⟨rfl, H.ent id _ he⟩)
theorem HStp.refl (H : HInv S B w0 h M w) : HStp S h M w h M w :=
 ⟨⟨Held.refl _ _, Nat.le_refl _, fun id _ => ids_self H id⟩, rfl, fun _ _ _ => ⟨rfl, rfl⟩⟩
theorem HStp.trans (k : HStp S h M w h' M' w') (l : HStp S h' M' w' h'' M'' w'') : HStp S h M w h'' M'' w'' :=
 ⟨k.tr.trans l.tr, l.lk.trans k.lk, fun id hid hl => by
  obtain ⟨e1, e2⟩ := k.lock id hid hl
  obtain ⟨e3, e4⟩ := l.lock id (Nat.lt_of_lt_of_le hid k.tr.nx) (by rw [k.lk]; exact hl)
  exact ⟨e3.trans e1, e4.trans e2⟩⟩
theorem EntOk.tr {c d : Cx} (k : Tr c d) {id : Nat} {e : Ent} (hM : d.M id = c.M id) (hb : ∀ b, (c.M id).has b → d.w.heap[b]? = c.w.heap[b]?) (q : EntOk c id e) : EntOk d id e := by
 cases e with
 | box v L =>
  obtain ⟨b, cs, h1, h3, h4⟩ := q
  exact ⟨b, cs, by rw [hM]; exact h1.stay hb, h3, RepC.tr k v _ h4⟩
 | row e xs =>
  obtain ⟨A, cap, h1, h2, h3⟩ := q
  refine ⟨A, cap, hM.trans h1, h2, ?_⟩
  rcases h3 with h3 | ⟨hc, b, o, cs, el, rfl, h5, h6, h7⟩
  ·exact .inl h3
  ·have e2 := hb b (.inl (by rw [h1]; exact blk_row hc))
   refine .inr ⟨hc, b, o, cs, el, rfl, e2.trans h5, h6, fun i x hx => ?_⟩
   obtain ⟨dd, h8, h9⟩ := h7 i x hx
   exact ⟨dd, h8.held k.held, fun j v hv => (cell_of_heap e2).trans (h9 j v hv)⟩
 | rsv => exact hM.trans q
theorem HInv.world (H : HInv S B w0 h M w) (e : w'.heap = w.heap) (b : Below B w w') : HInv S B w0 h M w' ∧ HStp S h M w h M w' := by
 have k : Tr (cx S h M w) (cx S h M w') := ⟨fun b _ hz => ⟨hz, by simp [cx, e]⟩, Nat.le_refl _, fun id _ => ids_self H id⟩
 exact ⟨⟨fun id q hq => (H.ent id q hq).tr k rfl (fun b _ => by simp [cx, e]), H.fresh, H.dist, H.own, H.bel.trans b, by rw [e]; exact H.bsz, H.old, H.bw⟩, k, rfl, fun _ _ _ => ⟨rfl, rfl⟩⟩
theorem blk_lt (H : HInv S B w0 h M w) {id b : Nat} (he : h.e id ≠ none) (hb : (M id).has b) : b < w.heap.size := by
 cases q : h.e id with
 | none => exact absurd q he
 | some e =>
  have hE := H.ent id e q
  cases e with
  | box v L =>
   obtain ⟨b', cs, h1, _⟩ := hE
   exact h1.lt hb
  | row e xs =>
   obtain ⟨A, cap, h1, _, h3⟩ := hE
   simp only [cx] at h1 h3
   rw [h1] at hb
   have hb : (Bk.row A (List.length xs) cap).blk = some b := by rcases hb with hb | hb; exact hb; exact hb.elim
   rcases h3 with h3 | ⟨hc, b', o, cs, el, rfl, h5, _⟩
   ·subst h3; cases hb
   ·rw [blk_row hc] at hb
    injection hb with hb
    subst hb
    exact (Array.getElem?_eq_some_iff.1 h5).1
  | rsv =>
   have hE : M id = .nil := hE
   rw [hE] at hb
   rcases hb with hb | hb
   ·cases hb
   ·exact hb.elim
theorem beq_false {i j : Nat} (h : i ≠ j) : Nat.beq i j = false := by
 cases q : Nat.beq i j
 ·rfl
 ·exact absurd (Nat.eq_of_beq_eq_true q) h
theorem kills_e (l : List Nat) : ∀ (h : Hp) (id : Nat), (h.kills l).e id = if id ∈ l then none else h.e id := by
 induction l with
 | nil => intro h id; simp [Hp.kills]
 | cons i l ih =>
  intro h id
  simp only [Hp.kills, ih, Hp.kill, set1]
  by_cases hi : id ∈ l
  ·simp [hi]
  ·by_cases hj : id = i
   ·subst hj; simp [Nat.beq_refl]
   ·have : Nat.beq id i = false := beq_false hj
    simp [hi, hj, this]
theorem kills_lk (l : List Nat) : ∀ (h : Hp), (h.kills l).lk = h.lk := by
 induction l with
 | nil => intro h; rfl
 | cons i l ih => intro h; simp only [Hp.kills, ih]; rfl
theorem kills_next (l : List Nat) : ∀ (h : Hp), (h.kills l).next = h.next := by
 induction l with
 | nil => intro h; rfl
 | cons i l ih => intro h; simp only [Hp.kills, ih]; rfl
theorem unlocked_mem {h : Hp} {l : List Nat} (u : unlocked h l = true) : ∀ i ∈ l, h.lk i = false := by
 induction l with
 | nil => simp
 | cons i l ih =>
  simp only [unlocked] at u
  split at u
  ·cases u
  ·rename_i hl
   intro j hj
   rcases List.mem_cons.1 hj with rfl | hj
   ·exact hl
   ·exact ih u j hj
theorem HInv.kills (H : HInv S B w0 h M w) {l : List Nat} (u : unlocked h l = true) : HInv S B w0 (h.kills l) M w ∧ HStp S h M w (h.kills l) M w := by
 have he := kills_e l h
 have hk : ∀ id e, (h.kills l).e id = some e → h.e id = some e := fun id e q => by rw [he] at q; split at q <;> first | cases q | exact q
 have k : Tr (cx S h M w) (cx S (h.kills l) M w) := by
  refine ⟨fun b _ hz => ⟨fun z => hz ?_, rfl⟩, Nat.le_of_eq (kills_next l h).symm, fun id hid => ?_⟩
  ·rcases z with z | ⟨id, e, q, hb⟩
   ·exact .inl z
   ·exact .inr ⟨id, e, hk id e q, hb⟩
  ·show (h.kills l).e id = none ∨ _
   rw [he]
   by_cases hi : id ∈ l
   ·simp [hi]
   ·simp only [hi, if_false]
    rcases ids_self H id with q | q | ⟨_, q⟩
    ·exact .inl q
    ·exact .inr (.inl q)
    ·refine .inr (.inr ⟨SameB.rfl, ?_⟩)
     rcases q with ⟨v, v', L, q1, q2⟩ | ⟨e, xs, ys, q1, q2, q3⟩
     ·exact .inl ⟨v, v', L, q1, by show (h.kills l).e id = _; rw [he]; simp [hi, q2]⟩
     ·exact .inr ⟨e, xs, ys, q1, by show (h.kills l).e id = _; rw [he]; simp [hi, q2], q3⟩
 refine ⟨⟨fun id e q => (H.ent id e (hk id e q)).tr k rfl (fun _ _ => rfl), fun id hid => ?_, fun i j b hi hj => H.dist i j b (fun z => hi ?_) (fun z => hj ?_), fun i b hi => H.own i b (fun z => hi ?_), H.bel, H.bsz, H.old, H.bw⟩, k, kills_lk l h, fun id hid hl => ⟨?_, rfl⟩⟩
 ·rw [he]; rw [kills_next] at hid; split <;> first | rfl | exact H.fresh id hid
 ·rw [he]; split <;> first | rfl | exact z
 ·rw [he]; split <;> first | rfl | exact z
 ·rw [he]; split <;> first | rfl | exact z
 ·rw [he]
  by_cases hi : id ∈ l
  ·have := unlocked_mem u id hi; rw [hl] at this; cases this
  ·simp [hi]
theorem HInv.new (H : HInv S B w0 h M w) (e : Ent) (bk : Bk) (hh : ∀ b, b < w.heap.size → w'.heap[b]? = w.heap[b]?) (hs : w.heap.size ≤ w'.heap.size) (bel : Below B w w')
  (hb : ∀ b, bk.has b → w.heap.size ≤ b)
  (q : (∀ b, (cx S (h.new e) (set1 M h.next bk) w').Z b ↔ (cx S h M w).Z b ∨ bk.has b) → Tr (cx S h M w) (cx S (h.new e) (set1 M h.next bk) w') → EntOk (cx S (h.new e) (set1 M h.next bk) w') h.next e) :
  HInv S B w0 (h.new e) (set1 M h.next bk) w' ∧ HStp S h M w (h.new e) (set1 M h.next bk) w' := by
 have ne : ∀ id, id ≠ h.next → (h.new e).e id = h.e id ∧ set1 M h.next bk id = M id := fun id q => by simp [Hp.new, set1, beq_false q]
 have ne' : ∀ id, h.e id ≠ none → id ≠ h.next := fun id q z => q (by rw [z]; exact H.fresh _ (Nat.le_refl _))
 have at_ : (h.new e).e h.next = some e ∧ set1 M h.next bk h.next = bk := by simp [Hp.new, set1, Nat.beq_refl]
 have hZ : ∀ b, (cx S (h.new e) (set1 M h.next bk) w').Z b ↔ (cx S h M w).Z b ∨ bk.has b := by
  intro b
  constructor
  ·rintro (z | ⟨id, e', q1, q2⟩)
   ·exact .inl (.inl z)
   ·by_cases hid : id = h.next
    ·subst hid
     simp only [cx] at q2
     rw [at_.2] at q2
     exact .inr q2
    ·simp only [cx] at q1 q2
     rw [(ne id hid).1] at q1
     rw [(ne id hid).2] at q2
     exact .inl (.inr ⟨id, e', q1, q2⟩)
  ·rintro ((z | ⟨id, e', q1, q2⟩) | q2)
   ·exact .inl z
   ·have hid := ne' id (by rw [show h.e id = some e' from q1]; simp)
    refine .inr ⟨id, e', ?_, ?_⟩
    ·show (h.new e).e id = _; rw [(ne id hid).1]; exact q1
    ·show (set1 M h.next bk id).has _; rw [(ne id hid).2]; exact q2
   ·exact .inr ⟨h.next, e, at_.1, by show (set1 M h.next bk h.next).has _; rw [at_.2]; exact q2⟩
 have k : Tr (cx S h M w) (cx S (h.new e) (set1 M h.next bk) w') := by
  refine ⟨fun b hlt hz => ⟨fun z => ?_, hh b hlt⟩, Nat.le_succ _, fun id hid => ?_⟩
  ·rcases (hZ b).1 z with z | z
   ·exact hz z
   ·exact absurd (hb b z) (by simp only [cx] at hlt; omega)
  ·have hid' : id ≠ h.next := by simp only [cx] at hid; omega
   show (h.new e).e id = none ∨ (h.e id = some .rsv ∧ M id = .nil) ∨ (SameB (M id) (set1 M h.next bk id) ∧ _)
   have := ids_self H id
   simp only [cx]
   rw [(ne id hid').1, (ne id hid').2]
   exact this
 refine ⟨⟨fun id e' hq => ?_, fun id hid => ?_, fun i j b hi hj => ?_, fun i b hi hib => ?_, H.bel.trans bel, Nat.le_trans H.bsz hs, H.old, H.bw⟩, k, rfl, fun id hid _ => ?_⟩
 ·by_cases hid : id = h.next
  ·subst hid
   rw [at_.1] at hq
   injection hq with hq
   subst hq
   exact q hZ k
  ·rw [(ne id hid).1] at hq
   exact (H.ent id e' hq).tr k (ne id hid).2 (fun b hbb => hh b (blk_lt H (by rw [hq]; simp) hbb))
 ·rw [(ne id (by simp only [Hp.new] at hid; omega)).1]
  exact H.fresh id (by simp only [Hp.new] at hid; omega)
 ·by_cases hin : i = h.next
  ·by_cases hjn : j = h.next
   ·intro _ _; exact hin.trans hjn.symm
   ·intro h1 h2
    subst hin
    rw [at_.2] at h1
    rw [(ne j hjn).1] at hj
    rw [(ne j hjn).2] at h2
    exact absurd (hb b h1) (by have := blk_lt H hj h2; omega)
  ·by_cases hjn : j = h.next
   ·intro h1 h2
    subst hjn
    rw [at_.2] at h2
    rw [(ne i hin).1] at hi
    rw [(ne i hin).2] at h1
    exact absurd (hb b h2) (by have := blk_lt H hi h1; omega)
   ·rw [(ne i hin).1] at hi
    rw [(ne j hjn).1] at hj
    rw [(ne i hin).2, (ne j hjn).2]
    exact H.dist i j b hi hj
 ·by_cases hin : i = h.next
  ·subst hin
   rw [at_.2] at hib
   exact Nat.le_trans H.bsz (hb b hib)
  ·rw [(ne i hin).1] at hi
   rw [(ne i hin).2] at hib
   exact H.own i b hi hib
 ·exact ne id (by omega)
theorem HInv.upd (H : HInv S B w0 h M w) {id : Nat} {e e' : Ent} (he : h.e id = some e) (hl : h.lk id = false)
  (kind : (∃ v v' L, e = .box v L ∧ e' = .box v' L) ∨ (∃ t xs ys, e = .row t xs ∧ e' = .row t ys ∧ List.length ys = List.length xs))
  (hh : ∀ b, b < w.heap.size → ¬ (M id).has b → w'.heap[b]? = w.heap[b]?) (hs : w.heap.size ≤ w'.heap.size) (bel : Below B w w')
  (q : Tr (cx S h M w) (cx S (h.put id e') M w') → EntOk (cx S (h.put id e') M w') id e') :
  HInv S B w0 (h.put id e') M w' ∧ HStp S h M w (h.put id e') M w' := by
 have ne : ∀ j, j ≠ id → (h.put id e').e j = h.e j := fun j q => by simp [Hp.put, set1, beq_false q]
 have at_ : (h.put id e').e id = some e' := by simp [Hp.put, set1, Nat.beq_refl]
 have live : ∀ j, (h.put id e').e j ≠ none → h.e j ≠ none := fun j q => by
  by_cases hj : j = id
  ·subst hj; rw [he]; simp
  ·rw [ne j hj] at q; exact q
 have hZ : ∀ b, (cx S (h.put id e') M w').Z b → (cx S h M w).Z b := by
  rintro b (z | ⟨j, f, q1, q2⟩)
  ·exact .inl z
  ·have := live j (by show (h.put id e').e j ≠ none; rw [show (h.put id e').e j = some f from q1]; simp)
   cases hj : h.e j with
   | none => exact absurd hj this
   | some g => exact .inr ⟨j, g, hj, q2⟩
 have k : Tr (cx S h M w) (cx S (h.put id e') M w') := by
  refine ⟨fun b hlt hz => ⟨fun z => hz (hZ b z), hh b hlt (fun z => hz (.inr ⟨id, e, he, z⟩))⟩, Nat.le_refl _, fun j hj => ?_⟩
  show (h.put id e').e j = none ∨ (h.e j = some .rsv ∧ M j = .nil) ∨ (SameB (M j) (M j) ∧ _)
  by_cases hji : j = id
  ·subst hji
   refine .inr (.inr ⟨SameB.rfl, ?_⟩)
   rcases kind with ⟨v, v', L, rfl, rfl⟩ | ⟨t, xs, ys, rfl, rfl, hlen⟩
   ·exact .inl ⟨v, v', L, he, at_⟩
   ·exact .inr ⟨t, xs, ys, he, at_, hlen⟩
  ·rcases ids_self H j with q | q | ⟨_, q⟩
   ·exact .inl (by rw [ne j hji]; exact q)
   ·exact .inr (.inl q)
   ·refine .inr (.inr ⟨SameB.rfl, ?_⟩)
    simp only [cx]
    rw [ne j hji]
    exact q
 refine ⟨⟨fun j f hq => ?_, fun j hj => ?_, fun i j b hi hj => H.dist i j b (live i hi) (live j hj), fun i b hi => H.own i b (live i hi), H.bel.trans bel, Nat.le_trans H.bsz hs, H.old, H.bw⟩, k, rfl, fun j hj hlk => ?_⟩
 ·by_cases hji : j = id
  ·subst hji
   rw [at_] at hq
   injection hq with hq
   subst hq
   exact q k
  ·rw [ne j hji] at hq
   refine (H.ent j f hq).tr k rfl (fun b hb => hh b (blk_lt H (by rw [hq]; simp) hb) (fun z => hji ?_))
   exact H.dist j id b (by rw [hq]; simp) (by rw [he]; simp) hb z
 ·have hji : j ≠ id := by rintro rfl; have := H.lt he; simp only [Hp.put] at hj; omega
  rw [ne j hji]
  exact H.fresh j hj
 ·have hji : j ≠ id := by rintro rfl; rw [hl] at hlk; cases hlk
  exact ⟨ne j hji, rfl⟩
theorem HInv.updM (H : HInv S B w0 h M w) {id : Nat} {v v' : AV} {L : Ty} {k' : Bk} (he : h.e id = some (.box v L)) (hl : h.lk id = false) (hk : SameB (M id) k') (hnew : ∀ b, k'.has b → (M id).has b ∨ w.heap.size ≤ b)
  (hh : ∀ b, b < w.heap.size → ¬ (M id).has b → w'.heap[b]? = w.heap[b]?) (hs : w.heap.size ≤ w'.heap.size) (bel : Below B w w')
  (q : Tr (cx S h M w) (cx S (h.put id (.box v' L)) (set1 M id k') w') → EntOk (cx S (h.put id (.box v' L)) (set1 M id k') w') id (.box v' L)) :
  HInv S B w0 (h.put id (.box v' L)) (set1 M id k') w' ∧ HStp S h M w (h.put id (.box v' L)) (set1 M id k') w' := by
 have ne : ∀ j, j ≠ id → (h.put id (.box v' L)).e j = h.e j ∧ set1 M id k' j = M j := fun j q => by simp [Hp.put, set1, beq_false q]
 have at_ : (h.put id (.box v' L)).e id = some (.box v' L) ∧ set1 M id k' id = k' := by simp [Hp.put, set1, Nat.beq_refl]
 have live : ∀ j, (h.put id (.box v' L)).e j ≠ none → h.e j ≠ none := fun j q => by
  by_cases hj : j = id
  ·subst hj; rw [he]; simp
  ·rw [(ne j hj).1] at q; exact q
 have hid : h.e id ≠ none := by rw [he]; simp
 have has' : ∀ j b, (h.put id (.box v' L)).e j ≠ none → (set1 M id k' j).has b → (M j).has b ∨ (j = id ∧ w.heap.size ≤ b) := fun j b _ hb => by
  by_cases hj : j = id
  ·subst hj
   rw [at_.2] at hb
   exact (hnew b hb).imp id fun q => ⟨rfl, q⟩
  ·rw [(ne j hj).2] at hb; exact .inl hb
 have hZ : ∀ b, (cx S (h.put id (.box v' L)) (set1 M id k') w').Z b → (cx S h M w).Z b ∨ w.heap.size ≤ b := by
  rintro b (z | ⟨j, f, q1, q2⟩)
  ·exact .inl (.inl z)
  ·have hj : (h.put id (.box v' L)).e j ≠ none := by rw [show (h.put id (.box v' L)).e j = some f from q1]; simp
   rcases has' j b hj q2 with r | ⟨_, r⟩
   ·cases hg : h.e j with
    | none => exact absurd hg (live j hj)
    | some g => exact .inl (.inr ⟨j, g, hg, r⟩)
   ·exact .inr r
 have k : Tr (cx S h M w) (cx S (h.put id (.box v' L)) (set1 M id k') w') := by
  refine ⟨fun b hlt hz => ⟨fun z => ?_, hh b hlt (fun z => hz (.inr ⟨id, _, he, z⟩))⟩, Nat.le_refl _, fun j hj => ?_⟩
  ·rcases hZ b z with r | r
   ·exact hz r
   ·simp only [cx] at hlt; omega
  show (h.put id (.box v' L)).e j = none ∨ (h.e j = some .rsv ∧ M j = .nil) ∨ (SameB (M j) (set1 M id k' j) ∧ _)
  by_cases hji : j = id
  ·subst hji
   rw [at_.2]
   exact .inr (.inr ⟨hk, .inl ⟨v, v', L, he, at_.1⟩⟩)
  ·rw [(ne j hji).2]
   rcases ids_self H j with q | q | ⟨_, q⟩
   ·exact .inl (by rw [(ne j hji).1]; exact q)
   ·exact .inr (.inl q)
   ·refine .inr (.inr ⟨SameB.rfl, ?_⟩)
    simp only [cx]
    rw [(ne j hji).1]
    exact q
 refine ⟨⟨fun j f hq => ?_, fun j hj => ?_, fun i j b hi hj h1 h2 => ?_, fun i b hi h1 => ?_, H.bel.trans bel, Nat.le_trans H.bsz hs, H.old, H.bw⟩, k, rfl, fun j hj hlk => ?_⟩
 ·by_cases hji : j = id
  ·subst hji
   rw [at_.1] at hq
   injection hq with hq
   subst hq
   exact q k
  ·rw [(ne j hji).1] at hq
   refine (H.ent j f hq).tr k (ne j hji).2 (fun b hb => hh b (blk_lt H (by rw [hq]; simp) hb) (fun z => hji ?_))
   exact H.dist j id b (by rw [hq]; simp) hid hb z
 ·have hji : j ≠ id := by rintro rfl; have := H.lt he; simp only [Hp.put] at hj; omega
  rw [(ne j hji).1]
  exact H.fresh j hj
 ·rcases has' i b hi h1 with r1 | ⟨rfl, r1⟩
  ·rcases has' j b hj h2 with r2 | ⟨rfl, r2⟩
   ·exact H.dist i j b (live i hi) (live j hj) r1 r2
   ·have := blk_lt H (live i hi) r1; omega
  ·rcases has' j b hj h2 with r2 | ⟨rfl, r2⟩
   ·have := blk_lt H (live j hj) r2; omega
   ·rfl
 ·rcases has' i b hi h1 with r1 | ⟨_, r1⟩
  ·exact H.own i b (live i hi) r1
  ·exact Nat.le_trans H.bsz r1
 ·have hji : j ≠ id := by rintro rfl; rw [hl] at hlk; cases hlk
  exact ne j hji
theorem Held.of_le {Z Z' : Nat → Prop} (w : World) (h : ∀ b, Z' b → Z b) : Held Z Z' w w := fun _ _ hz => ⟨fun z => hz (h _ z), rfl⟩
theorem sub_len {α : Type} {l : List α} {a n : Int} {m : Nat} (hn : n = (m : Int)) (ha : 0 ≤ a) (h : a.toNat + m ≤ l.length) : (P.sub_ l a (P.add a n)).length = m := by
 simp [P.sub_, P.add]; omega
theorem sub_get {α : Type} {l : List α} {a n : Int} {m : Nat} (hn : n = (m : Int)) (ha : 0 ≤ a) {i : Nat} {x : α} (h : (P.sub_ l a (P.add a n))[i]? = some x) : i < m ∧ l[a.toNat + i]? = some x := by
 unfold P.sub_ P.add at h
 rw [List.getElem?_drop, List.getElem?_take] at h
 split at h
 ·rename_i q
  exact ⟨by omega, h⟩
 ·cases h
theorem view_cells (H : HInv S B w0 h M w) {id : Nat} {a n : Int} {e : Ty} {xs : List e.D} (he : h.e id = some (.row e xs)) {cs : List Value} (hr : Rep1 (cx S h M w) (.view id a n) cs) :
  ∃ z m cap', cs = [.slice z m cap'] ∧ n = (m : Int) ∧ 0 ≤ a ∧ m ≤ cap' ∧ a.toNat + m ≤ xs.length ∧ (cap' = 0 ∨
   cap' ≠ 0 ∧ ∃ b o cs' el, z = some ⟨b, o, none⟩ ∧ (M id).has b ∧ w.heap[b]? = some (.cells cs' el (0, 0)) ∧ o + cap' * e.size ≤ cs'.size ∧
    ∀ i x, xs[a.toNat + i]? = some x → ∃ d, RepD (cx S h M w).Z w e x d ∧ Mem w b (o + i * e.size) d) := by
 obtain ⟨_, z, m, cap', rfl, hn, ha, hm, hr⟩ := hr
 rcases hr with hr | ⟨A, len, cap, e', xs', h1, h2, h3, h4, h5⟩
 ·simp only [cx] at hr; rw [he] at hr; cases hr
 ·have h2 : h.e id = some (.row e' xs') := h2
  rw [he] at h2
  injection h2 with h2
  injection h2 with q1 q2
  subst q1
  have q2 := eq_of_heq q2
  subst q2
  refine ⟨z, m, cap', rfl, hn, ha, hm, h3, ?_⟩
  by_cases hc : cap' = 0
  ·exact .inl hc
  right
  have h5 : z = A.map (·.add (a.toNat * e.size)) := by rcases h5 with h5 | h5; exact absurd h5 hc; exact h5
  obtain ⟨A', capp, g1, g2, g3⟩ := H.ent id _ he
  have h1 : M id = .row A len cap := h1
  have g1 : M id = .row A' (List.length xs) capp := g1
  rw [h1] at g1
  injection g1 with g1 g1' g1''
  subst g1; subst g1''
  rcases g3 with g3 | ⟨g3, b, o, cs', el, rfl, g5, g6, g7⟩
  ·omega
  refine ⟨hc, b, o + a.toNat * e.size, cs', el, by rw [h5]; simp [Addr.add_mid], .inl (by rw [h1]; exact blk_row g3), g5, ?_, fun i x hx => ?_⟩
  ·have : cap * e.size = a.toNat * e.size + cap' * e.size := by rw [← Nat.add_mul]; congr 1; omega
   omega
  ·obtain ⟨d, g8, g9⟩ := g7 _ _ hx
   refine ⟨d, g8, ?_⟩
   have e1 : o + a.toNat * e.size + i * e.size = o + (a.toNat + i) * e.size := by rw [Nat.add_mul]; omega
   rw [e1]; exact g9
theorem toD_rep (H : HInv S B w0 h M w) {Z' : Nat → Prop} (hZ : ∀ b, Z' b → (cx S h M w).Z b) : ∀ (v : AV) (t : Ty) (x : t.D) (cs : List Value),
  (∀ id ∈ v.owns, ∀ b, h.e id ≠ none → (M id).has b → ¬ Z' b) → toD h v t = some x → RepC (cx S h M w) v cs → RepD Z' w t x cs := by
 intro v
 induction v with
 | data t' x' =>
  intro t x cs _ hx hr
  simp only [toD] at hx
  split at hx
  ·rename_i e; subst e
   injection hx with hx
   subst hx
   simp only [RepC] at hr
   exact hr.held (Held.of_le w hZ)
  ·cases hx
 | nilS e =>
  intro t x cs _ hx hr
  cases t with
  | slice e' =>
   simp only [toD] at hx
   injection hx with hx
   subst hx
   simp only [RepC, Rep1] at hr
   obtain ⟨A, rfl⟩ := hr
   simp only [RepD]
   refine ⟨A, 0, rfl, Nat.le_refl _, ?_⟩
   simp
  | _ => simp [toD] at hx
 | own id =>
  intro t x cs hown hx hr
  cases t with
  | slice e' =>
   simp only [toD] at hx
   split at hx
   ·rename_i e xs he
    split at hx
    ·rename_i q; subst q
     injection hx with hx
     subst hx
     simp only [RepC, Rep1] at hr
     obtain ⟨hn, A, n, cap, rfl, hr⟩ := hr
     rcases hr with hr | hM
     ·simp only [cx] at hr; rw [he] at hr; cases hr
     ·obtain ⟨A', cap', h1, h2, h3⟩ := H.ent id _ he
      simp only [cx] at hM h1
      rw [hM] at h1
      injection h1 with h1 h1' h1''
      subst h1; subst h1'; subst h1''
      simp only [RepD]
      refine ⟨A, cap, rfl, h2, ?_⟩
      rcases h3 with h4 | ⟨hc, b, o, cs', el, rfl, h5, h6, h7⟩
      ·left
       rw [h4] at h2
       exact List.eq_nil_of_length_eq_zero (by omega)
      ·right
       refine ⟨b, o, rfl, (Array.getElem?_eq_some_iff.1 h5).1, hown id (by simp [AV.owns]) b (by rw [he]; simp) (.inl (by rw [hM]; exact blk_row hc)), fun i y hy => ?_⟩
       obtain ⟨d, h8, h9⟩ := h7 i y hy
       exact ⟨d, h8.held (Held.of_le w hZ), h9⟩
    ·cases hx
   ·cases hx
  | _ => simp [toD] at hx
 | st b ih =>
  intro t x cs hown hx hr
  cases t with
  | st tb =>
   simp only [toD] at hx
   simp only [RepC] at hr
   simp only [RepD]
   exact ih tb x cs hown hx hr
  | _ => simp [toD] at hx
 | pr a r iha ihr =>
  intro t x cs hown hx hr
  cases t with
  | pair ta tr =>
   simp only [toD] at hx
   split at hx
   ·rename_i y hy
    split at hx
    ·rename_i z hz
     injection hx with hx
     subst hx
     simp only [RepC] at hr
     obtain ⟨c1, c2, rfl, h1, h2⟩ := hr
     simp only [RepD]
     exact ⟨c1, c2, rfl, iha ta y c1 (fun id hid => hown id (by simp [AV.owns, hid])) hy h1, ihr tr z c2 (fun id hid => hown id (by simp [AV.owns, hid])) hz h2⟩
    ·cases hx
   ·cases hx
  | _ => simp [toD] at hx
 | unit =>
  intro t x cs _ hx hr
  cases t with
  | unit => simp only [RepC] at hr; simpa [RepD] using hr
  | _ => simp [toD] at hx
 | undef => intro t x cs _ hx hr; simp [toD] at hx
 | ptr id p => intro t x cs _ hx hr; simp [toD] at hx
 | rptr t' x' => intro t x cs _ hx hr; simp [toD] at hx
 | eptr id i p => intro t x cs _ hx hr; simp [toD] at hx
 | unkB => intro t x cs _ hx hr; simp [toD] at hx
 | mref id => intro t x cs _ hx hr; simp [toD] at hx
 | dref id => intro t x cs _ hx hr; simp [toD] at hx
 | dptr id i => intro t x cs _ hx hr; simp [toD] at hx
 | tptr id i m => intro t x cs _ hx hr; simp [toD] at hx
 | view id a n =>
  intro t x cs hown hx hr
  cases t with
  | slice e' =>
   simp only [toD] at hx
   split at hx
   ·rename_i e xs he
    split at hx
    ·rename_i q; subst q
     injection hx with hx
     have hx : P.sub_ xs a (P.add a n) = x := hx
     subst hx
     simp only [RepC] at hr
     obtain ⟨z, m, cap', rfl, hn, ha, hm, hle, h3⟩ := view_cells H he hr
     have hlen := sub_len hn ha hle
     simp only [RepD]
     refine ⟨z, cap', by rw [hlen], by rw [hlen]; exact hm, ?_⟩
     rcases h3 with h3 | ⟨hc, b, o, cs', el, rfl, hb, h5, h6, h7⟩
     ·left
      exact List.eq_nil_of_length_eq_zero (by rw [hlen]; omega)
     ·right
      refine ⟨b, o, rfl, (Array.getElem?_eq_some_iff.1 h5).1, hown id (by simp [AV.owns]) b (by rw [he]; simp) hb, fun i y hy => ?_⟩
      obtain ⟨d, h8, h9⟩ := h7 i y (sub_get hn ha hy).2
      exact ⟨d, h8.held (Held.of_le w hZ), h9⟩
    ·cases hx
   ·cases hx
  | _ => simp [toD] at hx
 | fn f d => intro t x cs _ hx hr; simp [toD] at hx
 | tup b => intro t x cs _ hx hr; simp [toD] at hx
theorem freeze_rep (H : HInv S B w0 h M w) {v : AV} {t : Ty} {x : t.D} {cs : List Value} (hx : toD h v t = some x) (hr : RepC (cx S h M w) v cs) :
  RepD (cx S (h.kills v.owns) M w).Z w t x cs := by
 refine toD_rep H (fun b z => ?_) v t x cs (fun id hid b hl hb z => ?_) hx hr
 ·rcases z with z | ⟨i, e, q1, q2⟩
  ·exact .inl z
  ·simp only [cx] at q1
   rw [kills_e] at q1
   split at q1
   ·cases q1
   ·exact .inr ⟨i, e, q1, q2⟩
 ·rcases z with z | ⟨i, e, q1, q2⟩
  ·have := H.own id b hl hb
   have := H.old b z
   omega
  ·simp only [cx] at q1 q2
   rw [kills_e] at q1
   split at q1
   ·cases q1
   ·rename_i hni
    have := H.dist id i b hl (by rw [q1]; simp) hb q2
    subst this
    exact hni hid
theorem toD_solid {h : Hp} : ∀ (v : AV) (t : Ty) (x : t.D), toD h v t = some x → v ≠ .unit → v.solid = true := by
 intro v
 induction v with
 | pr a r iha ihr =>
  intro t x hx hu
  cases t with
  | pair ta tr =>
   simp only [toD] at hx
   split at hx
   ·rename_i y hy
    split at hx
    ·rename_i z hz
     have h1 : a.solid = true := by cases a with
      | unit => rfl
      | _ => exact iha ta y hy (by simp)
     have h2 : r.solid = true := by cases r with
      | unit => rfl
      | _ => exact ihr tr z hz (by simp)
     simp [AV.solid, h1, h2]
    ·cases hx
   ·cases hx
  | _ => simp [toD] at hx
 | st b ih =>
  intro t x hx hu
  cases t with
  | st tb =>
   simp only [toD] at hx
   simp only [AV.solid]
   cases b with
   | unit => rfl
   | _ => exact ih tb x hx (by simp)
  | _ => simp [toD] at hx
 | undef => intro t x hx; simp [toD] at hx
 | tup b => intro t x hx; simp [toD] at hx
 | _ => intros; rfl
end Go.PG
end
section
namespace Go.PG
open Go.RowKit
theorem Rep1.len {c : Cx} {v : AV} {cs : List Value} (h : Rep1 c v cs) : cs.length = 1 := by
 obtain ⟨u, rfl, _⟩ := h.one; rfl
theorem fits_len {c : Cx} : ∀ (v : AV) (L : Ty) (cs : List Value), fitsT v L = true → RepC c v cs → cs.length = L.size := by
 intro v
 induction v with
 | data t x =>
  intro L cs f h
  simp only [fitsT, decide_eq_true_eq] at f
  subst f
  simp only [RepC] at h
  exact h.len
 | st a ih =>
  intro L cs f h
  cases L with
  | st b => simp only [fitsT] at f; simp only [RepC] at h; exact ih b cs f h
  | _ => simp [fitsT] at f
 | pr a r iha ihr =>
  intro L cs f h
  cases L with
  | pair ta tr =>
   simp only [fitsT] at f
   split at f
   ·rename_i fa
    simp only [RepC] at h
    obtain ⟨c1, c2, rfl, h1, h2⟩ := h
    simp [Ty.size, iha ta c1 fa h1, ihr tr c2 f h2]
   ·cases f
  | _ => simp [fitsT] at f
 | undef =>
  intro L cs f h
  simp only [RepC] at h
  obtain ⟨v, rfl, _⟩ := h
  cases L <;> first | rfl | simp [fitsT] at f
 | nilS e => intro L cs f h; simp only [RepC] at h; rw [h.len]; cases L <;> first | rfl | simp [fitsT] at f
 | own id => intro L cs f h; simp only [RepC] at h; rw [h.len]; cases L <;> first | rfl | simp [fitsT] at f
 | ptr id p => intro L cs f h; simp only [RepC] at h; rw [h.len]; cases L <;> first | rfl | simp [fitsT] at f
 | rptr t x => intro L cs f h; simp only [RepC] at h; rw [h.len]; cases L <;> first | rfl | simp [fitsT] at f
 | eptr id i p => intro L cs f h; simp only [RepC] at h; rw [h.len]; cases L <;> first | rfl | simp [fitsT] at f
 | view id a n => intro L cs f h; simp only [RepC] at h; rw [h.len]; cases L <;> first | rfl | simp [fitsT] at f
 | unkB => intro L cs f h; simp only [RepC] at h; rw [h.len]; cases L <;> first | rfl | simp [fitsT] at f
 | mref id => intro L cs f h; simp only [RepC] at h; rw [h.len]; cases L <;> first | rfl | simp [fitsT] at f
 | dref id => intro L cs f h; simp only [RepC] at h; rw [h.len]; cases L <;> first | rfl | simp [fitsT] at f
 | dptr id i => intro L cs f h; simp only [RepC] at h; rw [h.len]; cases L <;> first | rfl | simp [fitsT] at f
 | tptr id i m => intro L cs f h; simp only [RepC] at h; rw [h.len]; cases L <;> first | rfl | simp [fitsT] at f
 | fn g d => intro L cs f h; simp only [RepC] at h; obtain ⟨vs, rfl, _⟩ := h; cases L <;> first | rfl | simp [fitsT] at f
 | unit => intro L cs f h; cases L <;> simp [fitsT] at f
 | tup b => intro L cs f h; cases L <;> simp [fitsT] at f
theorem comp_rep {Z : Nat → Prop} {w : World} : ∀ (b : Ty) (j : Nat) (x : b.D) (q : Σ t : Ty, t.D) (cs : List Value), compD b j x = some q → RepD Z w b x cs →
  b.nth j = some q.1 ∧ ∃ c1 c c2, cs = c1 ++ c ++ c2 ∧ c1.length = b.off j ∧ RepD Z w q.1 q.2 c := by
 intro b
 induction b with
 | pair a r iha ihr =>
  intro j x q cs hq h
  simp only [RepD] at h
  obtain ⟨c1, c2, rfl, h1, h2⟩ := h
  cases j with
  | zero =>
   simp only [compD] at hq
   injection hq with hq
   subst hq
   exact ⟨rfl, [], c1, c2, by simp, rfl, h1⟩
  | succ j =>
   simp only [compD] at hq
   obtain ⟨e, d1, d, d2, rfl, hl, hd⟩ := ihr j x.2 q c2 hq h2
   exact ⟨e, c1 ++ d1, d, d2, by simp, by simp [Ty.off, hl, h1.len], hd⟩
 | _ =>
  intro j x q cs hq h
  cases j with
  | zero =>
   simp only [compD] at hq
   injection hq with hq
   subst hq
   exact ⟨rfl, [], cs, [], by simp, rfl, h⟩
  | succ j => simp [compD] at hq
theorem upd_rep {Z : Nat → Prop} {w : World} : ∀ (b : Ty) (j : Nat) (x : b.D) (t : Ty) (y : t.D) (z : b.D) (cs d : List Value), updD b j x t y = some z → RepD Z w b x cs → RepD Z w t y d →
  b.nth j = some t ∧ ∃ c1 c c2, cs = c1 ++ c ++ c2 ∧ c1.length = b.off j ∧ c.length = d.length ∧ RepD Z w b z (c1 ++ d ++ c2) := by
 intro b
 induction b with
 | pair a r iha ihr =>
  intro j x t y z cs d hz h hy
  simp only [RepD] at h
  obtain ⟨c1, c2, rfl, h1, h2⟩ := h
  cases j with
  | zero =>
   simp only [updD] at hz
   split at hz
   ·rename_i e
    subst e
    injection hz with hz
    subst hz
    refine ⟨rfl, [], c1, c2, by simp, rfl, by rw [h1.len, hy.len], ?_⟩
    simp only [RepD]
    exact ⟨d, c2, by simp, hy, h2⟩
   ·cases hz
  | succ j =>
   simp only [updD] at hz
   split at hz
   ·rename_i z' hz'
    injection hz with hz
    subst hz
    obtain ⟨e, d1, c, d2, rfl, hl, hcl, hd⟩ := ihr j x.2 t y z' c2 d hz' h2 hy
    refine ⟨e, c1 ++ d1, c, d2, by simp, by simp [Ty.off, hl, h1.len], hcl, ?_⟩
    simp only [RepD]
    exact ⟨c1, d1 ++ d ++ d2, by simp, h1, hd⟩
   ·cases hz
 | _ =>
  intro j x t y z cs d hz h hy
  cases j with
  | zero =>
   simp only [updD] at hz
   split at hz
   ·rename_i e
    subst e
    injection hz with hz
    subst hz
    exact ⟨rfl, [], cs, [], by simp, rfl, by rw [h.len, hy.len], by simpa using hy⟩
   ·cases hz
  | succ j => simp [updD] at hz
theorem spread_rep {c : Cx} : ∀ (b : Ty) (x : b.D) (cs : List Value), RepD c.Z c.w b x cs → RepC c (spread b x) cs ∧ (fitsT (spread b x) b = true) := by
 intro b
 induction b with
 | pair a r iha ihr =>
  intro x cs h
  simp only [RepD] at h
  obtain ⟨c1, c2, rfl, h1, h2⟩ := h
  obtain ⟨h3, h4⟩ := ihr x.2 c2 h2
  refine ⟨?_, ?_⟩
  ·simp only [spread, RepC]
   exact ⟨c1, c2, rfl, h1, h3⟩
  ·simp [spread, fitsT, h4]
 | _ => intro x cs h; exact ⟨by simpa only [spread, RepC] using h, by simp [spread, fitsT]⟩
theorem compP_rep {c : Cx} : ∀ (v : AV) (b : Ty) (j : Nat) (u : AV) (cs : List Value), compP v j = some u → fitsT v b = true → RepC c v cs →
  ∃ t, b.nth j = some t ∧ fitsT u t = true ∧ ∃ c1 d c2, cs = c1 ++ d ++ c2 ∧ c1.length = b.off j ∧ RepC c u d := by
 intro v
 induction v with
 | pr a r iha ihr =>
  intro b j u cs hu f h
  cases b with
  | pair ta tr =>
   simp only [fitsT] at f
   split at f
   ·rename_i fa
    simp only [RepC] at h
    obtain ⟨c1, c2, rfl, h1, h2⟩ := h
    cases j with
    | zero =>
     simp only [compP] at hu
     injection hu with hu
     subst hu
     exact ⟨ta, rfl, fa, [], c1, c2, by simp, rfl, h1⟩
    | succ j =>
     simp only [compP] at hu
     obtain ⟨t, e, fu, d1, d, d2, rfl, hl, hd⟩ := ihr tr j u c2 hu f h2
     exact ⟨t, e, fu, c1 ++ d1, d, d2, by simp, by simp [Ty.off, hl, fits_len a ta c1 fa h1], hd⟩
   ·cases f
  | _ => simp [fitsT] at f
 | data t x =>
  intro b j u cs hu f h
  simp only [fitsT, decide_eq_true_eq] at f
  subst f
  simp only [compP] at hu
  split at hu
  ·rename_i q hq
   injection hu with hu
   subst hu
   simp only [RepC] at h
   obtain ⟨e, c1, d, c2, e2, hl, hd⟩ := comp_rep t j x q cs hq h
   exact ⟨q.1, e, by simp [fitsT], c1, d, c2, e2, hl, by simpa only [RepC] using hd⟩
  ·cases hu
 | _ =>
  intro b j u cs hu f h
  cases j with
  | zero =>
   simp only [compP] at hu
   injection hu with hu
   subst hu
   cases b <;> first | (simp [fitsT] at f; done) | exact ⟨_, rfl, f, [], cs, [], by simp, rfl, h⟩
  | succ j => simp [compP] at hu
theorem av_comp {c : Cx} {v : AV} {L : Ty} {j : Nat} {u : AV} {cs : List Value} (hu : v.comp j = some u) (f : fitsT v L = true) (h : RepC c v cs) :
  ∃ b t, L = .st b ∧ b.nth j = some t ∧ fitsT u t = true ∧ ∃ c1 d c2, cs = c1 ++ d ++ c2 ∧ c1.length = b.off j ∧ RepC c u d := by
 cases v with
 | data t x =>
  cases t with
  | st b =>
   simp only [fitsT, decide_eq_true_eq] at f
   subst f
   simp only [AV.comp] at hu
   split at hu
   ·rename_i q hq
    injection hu with hu
    subst hu
    simp only [RepC, RepD] at h
    obtain ⟨e, c1, d, c2, e2, hl, hd⟩ := comp_rep b j x q cs hq h
    exact ⟨b, q.1, rfl, e, by simp [fitsT], c1, d, c2, e2, hl, by simpa only [RepC] using hd⟩
   ·cases hu
  | _ => simp [AV.comp] at hu
 | st a =>
  cases L with
  | st b =>
   simp only [fitsT] at f
   simp only [AV.comp] at hu
   simp only [RepC] at h
   obtain ⟨t, e, fu, r⟩ := compP_rep a b j u cs hu f h
   exact ⟨b, t, rfl, e, fu, r⟩
  | _ => simp [fitsT] at f
 | _ => simp [AV.comp] at hu
theorem av_get {c : Cx} : ∀ (p : List Nat) (v : AV) (L : Ty) (u : AV) (cs : List Value) (o : Nat) (t : Ty), v.get p = some u → offs L p = some (o, t) → fitsT v L = true → RepC c v cs →
  fitsT u t = true ∧ ∃ c1 d c2, cs = c1 ++ d ++ c2 ∧ c1.length = o ∧ RepC c u d := by
 intro p
 induction p with
 | nil =>
  intro v L u cs o t hu ho f h
  simp only [AV.get] at hu
  injection hu with hu
  subst hu
  simp only [offs] at ho
  injection ho with ho
  injection ho with h1 h2
  subst h1; subst h2
  exact ⟨f, [], cs, [], by simp, rfl, h⟩
 | cons j p ih =>
  intro v L u cs o t hu ho f h
  simp only [AV.get] at hu
  split at hu
  ·rename_i x hx
   obtain ⟨b, t', rfl, e, fx, c1, d, c2, rfl, hl, hd⟩ := av_comp hx f h
   simp only [offs, e] at ho
   split at ho
   ·rename_i o' u' ho'
    injection ho with ho
    injection ho with h1 h2
    subst h1; subst h2
    obtain ⟨fu, d1, d', d2, rfl, hl', hd'⟩ := ih x t' u d o' u' hu ho' fx hd
    exact ⟨fu, c1 ++ d1, d', d2 ++ c2, by simp, by simp [hl, hl'], hd'⟩
   ·cases ho
  ·cases hu
theorem updS_rep {c : Cx} : ∀ (b : Ty) (x : b.D) (j : Nat) (y z : AV) (cs d : List Value) (t : Ty), updS (spread b x) j y = some z → b.nth j = some t → fitsT y t = true → RepD c.Z c.w b x cs → RepC c y d →
  fitsT z b = true ∧ ∃ c1 e c2, cs = c1 ++ e ++ c2 ∧ c1.length = b.off j ∧ e.length = d.length ∧ RepC c z (c1 ++ d ++ c2) := by
 intro b
 induction b with
 | pair a r iha ihr =>
  intro x j y z cs d t hz hn fy h hy
  simp only [RepD] at h
  obtain ⟨c1, c2, rfl, h1, h2⟩ := h
  obtain ⟨h3, h4⟩ := spread_rep (c := c) r x.2 c2 h2
  cases j with
  | zero =>
   simp only [spread, updS] at hz
   injection hz with hz
   subst hz
   simp only [Ty.nth] at hn
   injection hn with hn
   subst hn
   refine ⟨by simp [fitsT, fy, h4], [], c1, c2, by simp, rfl, by rw [h1.len, fits_len y a d fy hy], ?_⟩
   simp only [RepC]
   exact ⟨d, c2, by simp, hy, h3⟩
  | succ j =>
   simp only [spread, updS] at hz
   split at hz
   ·rename_i z' hz'
    injection hz with hz
    subst hz
    simp only [Ty.nth] at hn
    obtain ⟨f, d1, e, d2, rfl, hl, hel, hd⟩ := ihr x.2 j y z' c2 d t hz' hn fy h2 hy
    refine ⟨by simp [fitsT, f], c1 ++ d1, e, d2, by simp, by simp [Ty.off, hl, h1.len], hel, ?_⟩
    simp only [RepC]
    exact ⟨c1, d1 ++ d ++ d2, by simp, by simpa only [RepC] using h1, hd⟩
   ·cases hz
 | _ =>
  intro x j y z cs d t hz hn fy h hy
  cases j with
  | zero =>
   simp only [spread, updS] at hz
   injection hz with hz
   subst hz
   simp only [Ty.nth] at hn
   injection hn with hn
   subst hn
   exact ⟨fy, [], cs, [], by simp, rfl, by rw [h.len, fits_len y _ d fy hy], by simpa using hy⟩
  | succ j => simp [Ty.nth] at hn
theorem updP_rep {c : Cx} : ∀ (v : AV) (b : Ty) (j : Nat) (y z : AV) (cs d : List Value) (t : Ty), updP v j y = some z → fitsT v b = true → b.nth j = some t → fitsT y t = true → RepC c v cs → RepC c y d →
    fitsT z b = true ∧ ∃ c1 e c2, cs = c1 ++ e ++ c2 ∧ c1.length = b.off j ∧ e.length = d.length ∧ RepC c z (c1 ++ d ++ c2) := by
  intro v
  induction v with
  | pr a r iha ihr =>
    intro b j y z cs d t hz f hn fy h hy
    cases b with
    | pair ta tr =>
      simp only [fitsT] at f
      split at f
      · rename_i fa
        simp only [RepC] at h
        obtain ⟨c1, c2, rfl, h1, h2⟩ := h
        cases j with
        | zero =>
          simp only [updP] at hz
          injection hz with hz
          subst hz
          simp only [Ty.nth] at hn
          injection hn with hn
          subst hn
          refine ⟨by simp [fitsT, fy, f], [], c1, c2, by simp, rfl, by rw [fits_len a ta c1 fa h1, fits_len y ta d fy hy], ?_⟩
          simp only [RepC]
          exact ⟨d, c2, by simp, hy, h2⟩
        | succ j =>
          simp only [updP] at hz
          split at hz
          · rename_i z' hz'
            injection hz with hz
            subst hz
            simp only [Ty.nth] at hn
            obtain ⟨fz, d1, e, d2, rfl, hl, hel, hd⟩ := ihr tr j y z' c2 d t hz' f hn fy h2 hy
            refine ⟨by simp [fitsT, fa, fz], c1 ++ d1, e, d2, by simp, by simp [Ty.off, hl, fits_len a ta c1 fa h1], hel, ?_⟩
            simp only [RepC]
            exact ⟨c1, d1 ++ d ++ d2, by simp, h1, hd⟩
          · cases hz
      · cases f
    | _ => simp [fitsT] at f
  | data t' x =>
    intro b j y z cs d t hz f hn fy h hy
    simp only [fitsT, decide_eq_true_eq] at f
    subst f
    simp only [RepC] at h
    have key : ∀ (hz' : updS (spread t' x) j y = some z), fitsT z t' = true ∧ ∃ c1 e c2, cs = c1 ++ e ++ c2 ∧ c1.length = t'.off j ∧ e.length = d.length ∧ RepC c z (c1 ++ d ++ c2) :=
      fun hz' => updS_rep t' x j y z cs d t hz' hn fy h hy
    cases y with
    | data u q =>
      simp only [updP] at hz
      split at hz
      · rename_i z' hz'
        injection hz with hz
        subst hz
        simp only [RepC] at hy
        obtain ⟨e, c1, e', c2, e2, hl, hel, hd⟩ := upd_rep t' j x u q z' cs d hz' h hy
        exact ⟨by simp [fitsT], c1, e', c2, e2, hl, hel, by simpa only [RepC] using hd⟩
      · cases hz
    | _ => exact key (by simpa only [updP] using hz)
  | _ =>
    intro b j y z cs d t hz f hn fy h hy
    cases j with
    | zero =>
      simp only [updP] at hz
      injection hz with hz
      subst hz
      cases b <;> first
        | (simp [fitsT] at f; done)
        | (simp only [Ty.nth] at hn
           injection hn with hn
           subst hn
           exact ⟨fy, [], cs, [], by simp, rfl, by rw [fits_len _ _ cs f h, fits_len _ _ d fy hy], by simpa using hy⟩)
    | succ j => simp [updP] at hz
theorem av_upd {c : Cx} {v : AV} {b : Ty} {j : Nat} {y z : AV} {cs d : List Value} {t : Ty} (hz : v.upd j y = some z) (f : fitsT v (.st b) = true) (hn : b.nth j = some t) (fy : fitsT y t = true)
  (h : RepC c v cs) (hy : RepC c y d) : fitsT z (.st b) = true ∧ ∃ c1 e c2, cs = c1 ++ e ++ c2 ∧ c1.length = b.off j ∧ e.length = d.length ∧ RepC c z (c1 ++ d ++ c2) := by
 cases v with
 | data t' x =>
  simp only [fitsT, decide_eq_true_eq] at f
  subst f
  simp only [RepC, RepD] at h
  have key : ∀ z', updS (spread b x) j y = some z' → z = .st z' → fitsT z (.st b) = true ∧ ∃ c1 e c2, cs = c1 ++ e ++ c2 ∧ c1.length = b.off j ∧ e.length = d.length ∧ RepC c z (c1 ++ d ++ c2) := by
   intro z' hz' e
   subst e
   obtain ⟨fz, r⟩ := updS_rep b x j y z' cs d t hz' hn fy h hy
   exact ⟨by simpa only [fitsT] using fz, by simpa only [RepC] using r⟩
  cases y with
  | data u q =>
   simp only [AV.upd] at hz
   split at hz
   ·rename_i z' hz'
    injection hz with hz
    subst hz
    simp only [RepC] at hy
    obtain ⟨e, c1, e', c2, e2, hl, hel, hd⟩ := upd_rep b j x u q z' cs d hz' h hy
    exact ⟨by simp [fitsT], c1, e', c2, e2, hl, hel, by simpa only [RepC, RepD] using hd⟩
   ·cases hz
  | _ =>
   simp only [AV.upd] at hz
   split at hz
   ·rename_i z' hz'
    injection hz with hz
    exact key z' hz' hz.symm
   ·cases hz
 | st a =>
  simp only [fitsT] at f
  simp only [RepC] at h
  simp only [AV.upd] at hz
  split at hz
  ·rename_i z' hz'
   injection hz with hz
   subst hz
   obtain ⟨fz, r⟩ := updP_rep a b j y z' cs d t hz' f hn fy h hy
   exact ⟨by simpa only [fitsT] using fz, by simpa only [RepC] using r⟩
  ·cases hz
 | _ => simp [fitsT] at f
theorem av_set {c : Cx} : ∀ (p : List Nat) (v : AV) (L : Ty) (y z : AV) (cs d : List Value) (o : Nat) (t : Ty), v.set p y = some z → offs L p = some (o, t) → fitsT v L = true → fitsT y t = true → RepC c v cs → RepC c y d →
  fitsT z L = true ∧ ∃ c1 e c2, cs = c1 ++ e ++ c2 ∧ c1.length = o ∧ e.length = d.length ∧ RepC c z (c1 ++ d ++ c2) := by
 intro p
 induction p with
 | nil =>
  intro v L y z cs d o t hz ho f fy h hy
  simp only [AV.set] at hz
  injection hz with hz
  subst hz
  simp only [offs] at ho
  injection ho with ho
  injection ho with h1 h2
  subst h1; subst h2
  exact ⟨fy, [], cs, [], by simp, rfl, by rw [fits_len v L cs f h, fits_len y L d fy hy], by simpa using hy⟩
 | cons j p ih =>
  intro v L y z cs d o t hz ho f fy h hy
  simp only [AV.set] at hz
  split at hz
  ·rename_i x hx
   split at hz
   ·rename_i x' hx'
    obtain ⟨b, t', rfl, e, fx, c1, e1, c2, rfl, hl, hd⟩ := av_comp hx f h
    simp only [offs, e] at ho
    split at ho
    ·rename_i o' u' ho'
     injection ho with ho
     injection ho with h1 h2
     subst h1; subst h2
     obtain ⟨fx', d1, e2, d2, rfl, hl', hel, hd'⟩ := ih x t' y x' e1 d o' u' hx' ho' fx fy hd hy
     obtain ⟨fz, g1, g, g2, eg, hlg, hgl, hg⟩ := av_upd hz f e fx' h hd'
     have hg1 : g1 = c1 := List.append_inj_left (by simpa using eg.symm) (by omega)
     subst hg1
     have eg2 : e2.length = d.length := hel
     have : g ++ g2 = (d1 ++ e2 ++ d2) ++ c2 := by
      have := List.append_cancel_left (as := g1) (by simpa using eg.symm)
      simpa using this
     obtain ⟨hg3, hg4⟩ := List.append_inj this (by simp [hgl, eg2])
     subst hg4
     exact ⟨fz, g1 ++ d1, e2, d2 ++ g2, by simp, by simp [hl, hl'], hel, by simpa using hg⟩
    ·cases ho
   ·cases hz
  ·cases hz
end Go.PG
end
section
namespace Go.PG
open Go.RowKit
def Info (P : Program) (t : TypeId) (n : Nat) (z : Value) : Prop := ∃ i, P.info? t = some i ∧ i.size = n ∧ i.zero = some z
inductive Mode where
 | typ (t : TypeId)
 | flds (l : List Field) (o : Nat)
 | arr (n : Nat) (e : TypeId)
def lift (Q : TypeId → Prop) : Mode → Prop
 | .typ t => Q t
 | .flds [f] o => f.offset = o ∧ f.name ≠ "_" ∧ Q f.type
 | .arr 1 e => Q e
 | _ => False
def zeroCell : Ty → Value → Bool
 | .bool, .bool b => !b
 | .int k, .int k' n => decide (k' = k) && decide (n = 0)
 | .str, .string s => decide (s.data.size = 0)
 | .slice _, .slice none 0 0 => true
 | .opq, v => v.oneCell'
 | _, _ => false
def zeroRun : Ty → List Value → Option (List Value)
 | .st b, cs => zeroRun b cs
 | .pair a b, cs => match zeroRun a cs with
  | some r => zeroRun b r
  | none => none
 | t, v :: r => cond (zeroCell t v) (some r) none
 | _, [] => none
def SlfOk (P : Program) (t : TypeId) : Prop := (∃ fs, P.underlying t = some (.struct fs)) ∧ ∃ zs, Info P t 8 (.agg zs) ∧ zeroRun slfB zs.toList = some []
def Ok (P : Program) : Ty → Mode → Prop
 | .slf, _ => False
 | .unit, _ => False
 | .map _ _, _ => False
 | .dmap _ _, _ => False
 | .bld _ _, _ => False
 | .bool, m => lift (fun t => P.underlying t = some .bool ∧ Info P t 1 (.bool false)) m
 | .int k, m => lift (fun t => P.underlying t = some (.int k) ∧ Info P t 1 (.int k 0)) m
 | .str, m => lift (fun t => P.underlying t = some .string ∧ ∃ s, Info P t 1 (.string s) ∧ s.data.size = 0) m
 | .slice e, m => lift (fun t => (∃ e', P.underlying t = some (.slice e') ∧ (Ok P e (.typ e') ∨ e = .slf ∧ SlfOk P e')) ∧ Info P t 1 (.slice none 0 0)) m
 | .opq, m => lift (fun t => (∃ d, P.underlying t = some d ∧ d.isRow = false) ∧ ∃ z, Info P t 1 z ∧ z.oneCell' = true) m
 | .st b, m => lift (fun t => ((∃ fs, P.underlying t = some (.struct fs) ∧ Ok P b (.flds fs.toList 0)) ∨ (∃ n e, P.underlying t = some (.array n e) ∧ Ok P b (.arr n e))) ∧
   ∃ zs, Info P t b.size (.agg zs) ∧ zeroRun b zs.toList = some []) m
 | .pair a r, m => match m with
  | .flds (f :: l) o => f.offset = o ∧ f.name ≠ "_" ∧ Ok P a (.typ f.type) ∧ Ok P r (.flds l (o + a.size))
  | .arr (n + 1) e => Ok P a (.typ e) ∧ Ok P r (.arr n e)
  | _ => False
abbrev OkE (P : Program) (e : Ty) (t : TypeId) : Prop := Ok P e (.typ t) ∨ e = .slf ∧ SlfOk P t
def Eqs (P : Program) : Ty → Mode → Prop
 | .bool, m => lift (fun t => P.underlying t = some .bool) m
 | .int k, m => lift (fun t => P.underlying t = some (.int k)) m
 | .str, m => lift (fun t => P.underlying t = some .string) m
 | .st b, m => lift (fun t => (∃ fs, P.underlying t = some (.struct fs) ∧ Eqs P b (.flds fs.toList 0)) ∧ P.stoodInHeld t = false ∧ P.eqGuardType P.depth t = false ∧ (P.info? t).map (·.size) = some b.size) m
 | .pair a r, m => match m with
  | .flds (f :: l) o => f.offset = o ∧ f.name ≠ "_" ∧ Eqs P a (.typ f.type) ∧ Eqs P r (.flds l (o + a.size))
  | _ => False
 | _, _ => False
def nest : Ty → Nat
 | .st b => nest b + 1
 | .pair a b => max (nest a) (nest b)
 | _ => 0
variable {P : Program} {w : World}
theorem ok_size {t : Ty} {id : TypeId} (h : Ok P t (.typ id)) : ∃ i, P.info? id = some i ∧ i.size = t.size := by
 cases t with
 | unit => exact h.elim
 | map _ _ => exact h.elim
 | dmap _ _ => exact h.elim
 | slf => exact h.elim
 | bld _ _ => exact h.elim
 | pair a b => exact h.elim
 | opq => obtain ⟨_, z, ⟨i, h1, h2, _⟩, _⟩ := h; exact ⟨i, h1, h2⟩
 | str => obtain ⟨_, s, ⟨i, h1, h2, _⟩, _⟩ := h; exact ⟨i, h1, h2⟩
 | st b => obtain ⟨_, zs, ⟨i, h1, h2, _⟩, _⟩ := h; exact ⟨i, h1, h2⟩
 | _ => obtain ⟨_, ⟨i, h1, h2, _⟩⟩ := h; exact ⟨i, h1, h2⟩
theorem ok_pos : ∀ (t : Ty) (m : Mode), Ok P t m → 0 < t.size := by
 intro t
 induction t with
 | unit => intro m h; exact h.elim
 | st b ih =>
  intro m h
  have key : ∀ t, ((∃ fs, P.underlying t = some (.struct fs) ∧ Ok P b (.flds fs.toList 0)) ∨ (∃ n e, P.underlying t = some (.array n e) ∧ Ok P b (.arr n e))) → 0 < (Ty.st b).size := by
   rintro t (⟨fs, _, h⟩ | ⟨n, e, _, h⟩)
   ·exact ih _ h
   ·exact ih _ h
  cases m with
  | typ t => exact key t h.1
  | flds l o =>
   cases l with
   | nil => exact h.elim
   | cons f l => cases l with
    | nil => exact key _ h.2.2.1
    | cons g l => exact h.elim
  | arr n e =>
   cases n with
   | zero => exact h.elim
   | succ n => cases n with
    | zero => exact key _ h.1
    | succ n => exact h.elim
 | pair a r iha ihr =>
  intro m h
  cases m with
  | typ t => exact h.elim
  | flds l o => cases l with
   | nil => exact h.elim
   | cons f l => have := iha _ h.2.2.1; simp only [Ty.size]; omega
  | arr n e => cases n with
   | zero => exact h.elim
   | succ n => have := iha _ h.1; simp only [Ty.size]; omega
 | slf => intro m h; exact h.elim
 | _ => intro m h; exact Nat.one_pos
theorem ok_agg {t : Ty} {id : TypeId} (h : Ok P t (.typ id)) (w : World) : (isAgg id).run P w = .ok (isSt t) w := by
 have key : ∀ d, P.underlying id = some d → d.isRow = isSt t → (isAgg id).run P w = .ok (isSt t) w := by
  intro d hu hd
  unfold isAgg
  rw [Sem.run_bind, run_underlying hu w]
  cases d <;> simp_all [TypeDesc.isRow]
 cases t with
 | unit => exact h.elim
 | map _ _ => exact h.elim
 | dmap _ _ => exact h.elim
 | slf => exact h.elim
 | bld _ _ => exact h.elim
 | pair a b => exact h.elim
 | opq => obtain ⟨⟨d, h1, h2⟩, _⟩ := h; exact key d h1 h2
 | st b =>
  obtain ⟨h | h, _⟩ := h
  ·obtain ⟨fs, h, _⟩ := h; exact key _ h rfl
  ·obtain ⟨n, e, h, _⟩ := h; exact key _ h rfl
 | slice e => obtain ⟨⟨e', h, _⟩, _⟩ := h; exact key _ h rfl
 | _ => exact key _ h.1 rfl
theorem run_sizeOf_ok {t : Ty} {id : TypeId} (h : Ok P t (.typ id)) (w : World) : (sizeOf id).run P w = .ok t.size w := by
 obtain ⟨i, h1, h2⟩ := ok_size h
 simp [sizeOf, typeInfo, h1, h2]
theorem okE_size {t : Ty} {id : TypeId} (h : OkE P t id) : ∃ i, P.info? id = some i ∧ i.size = t.size := by
 rcases h with h | ⟨rfl, _, zs, ⟨i, h1, h2, _⟩, _⟩
 ·exact ok_size h
 ·exact ⟨i, h1, h2⟩
theorem okE_pos {t : Ty} {id : TypeId} (h : OkE P t id) : 0 < t.size := by
 rcases h with h | ⟨rfl, _⟩
 ·exact ok_pos t _ h
 ·decide
theorem okE_pair {t a b : Ty} {id : TypeId} (h : OkE P t id) : t ≠ .pair a b := by
 rintro rfl
 rcases h with h | ⟨h, _⟩
 ·exact h.elim
 ·cases h
theorem run_sizeOf_okE {t : Ty} {id : TypeId} (h : OkE P t id) (w : World) : (sizeOf id).run P w = .ok t.size w := by
 obtain ⟨i, h1, h2⟩ := okE_size h
 simp [sizeOf, typeInfo, h1, h2]
theorem lift_flds {Q : TypeId → Prop} {l : List Field} {o : Nat} (h : lift Q (.flds l o)) : ∃ f, l = [f] ∧ f.offset = o ∧ f.name ≠ "_" ∧ Q f.type := by
 cases l with
 | nil => exact h.elim
 | cons f l => cases l with
  | nil => exact ⟨f, rfl, h⟩
  | cons g l => exact h.elim
theorem lift_arr {Q : TypeId → Prop} {n : Nat} {e : TypeId} (h : lift Q (.arr n e)) : n = 1 ∧ Q e := by
 cases n with
 | zero => exact h.elim
 | succ n => cases n with
  | zero => exact ⟨rfl, h⟩
  | succ n => exact h.elim
theorem ok_leaf_flds {t : Ty} (hp : ∀ a r, t ≠ .pair a r) {l : List Field} {o : Nat} (h : Ok P t (.flds l o)) : ∃ f, l = [f] ∧ f.offset = o ∧ f.name ≠ "_" ∧ Ok P t (.typ f.type) := by
 cases t with
 | pair a r => exact absurd rfl (hp a r)
 | unit => exact h.elim
 | map _ _ => exact h.elim
 | dmap _ _ => exact h.elim
 | slf => exact h.elim
 | bld _ _ => exact h.elim
 | _ => exact lift_flds h
theorem ok_leaf_arr {t : Ty} (hp : ∀ a r, t ≠ .pair a r) {n : Nat} {e : TypeId} (h : Ok P t (.arr n e)) : n = 1 ∧ Ok P t (.typ e) := by
 cases t with
 | pair a r => exact absurd rfl (hp a r)
 | unit => exact h.elim
 | map _ _ => exact h.elim
 | dmap _ _ => exact h.elim
 | slf => exact h.elim
 | bld _ _ => exact h.elim
 | _ => exact lift_arr h
theorem nth_leaf {b t : Ty} {j : Nat} (hp : ∀ a r, b ≠ .pair a r) (h : b.nth j = some t) : j = 0 ∧ b = t ∧ b.off j = 0 := by
 cases b with
 | pair a r => exact absurd rfl (hp a r)
 | _ => cases j with
  | zero => exact ⟨rfl, by simpa [Ty.nth] using h, rfl⟩
  | succ j => simp [Ty.nth] at h
theorem ok_field : ∀ (b : Ty) (l : List Field) (o j : Nat) (t : Ty), Ok P b (.flds l o) → b.nth j = some t → ∃ f, l[j]? = some f ∧ f.offset = o + b.off j ∧ Ok P t (.typ f.type) := by
 intro b
 induction b with
 | pair a r iha ihr =>
  intro l o j t h hn
  cases l with
  | nil => exact h.elim
  | cons f l =>
   obtain ⟨h1, _, h2, h3⟩ := h
   cases j with
   | zero =>
    simp only [Ty.nth] at hn
    injection hn with hn
    subst hn
    exact ⟨f, rfl, by simp [Ty.off, h1], h2⟩
   | succ j =>
    simp only [Ty.nth] at hn
    obtain ⟨g, h4, h5, h6⟩ := ihr l _ j t h3 hn
    exact ⟨g, by simpa using h4, by simp [Ty.off, h5]; omega, h6⟩
 | _ =>
  intro l o j t h hn
  obtain ⟨rfl, rfl, e⟩ := nth_leaf (by intros; simp) hn
  obtain ⟨f, rfl, h1, _, h2⟩ := ok_leaf_flds (by intros; simp) h
  exact ⟨f, rfl, by simp [h1, e], h2⟩
theorem ok_elem : ∀ (b : Ty) (n j : Nat) (e : TypeId) (t : Ty), Ok P b (.arr n e) → b.nth j = some t → j < n ∧ Ok P t (.typ e) ∧ ∀ i, P.info? e = some i → b.off j = j * i.size := by
 intro b
 induction b with
 | pair a r iha ihr =>
  intro n j e t h hn
  cases n with
  | zero => exact h.elim
  | succ n =>
   obtain ⟨h1, h2⟩ := h
   cases j with
   | zero =>
    simp only [Ty.nth] at hn
    injection hn with hn
    subst hn
    exact ⟨by omega, h1, fun i _ => by simp [Ty.off]⟩
   | succ j =>
    simp only [Ty.nth] at hn
    obtain ⟨h3, h4, h5⟩ := ihr n j e t h2 hn
    refine ⟨by omega, h4, fun i hi => ?_⟩
    obtain ⟨i', hi', hs⟩ := ok_size h1
    rw [hi] at hi'
    injection hi' with hi'
    subst hi'
    rw [Ty.off, h5 i hi, ← hs, Nat.add_mul]
    omega
 | _ =>
  intro n j e t h hn
  obtain ⟨rfl, rfl, e'⟩ := nth_leaf (by intros; simp) hn
  obtain ⟨rfl, h2⟩ := ok_leaf_arr (by intros; simp) h
  exact ⟨by omega, h2, fun i _ => by simp [e']⟩
theorem mkPr_rep {c : Cx} {a b : AV} {ta tb : Ty} {c1 c2 : List Value} (h1 : RepC c a c1) (h2 : RepC c b c2) (f1 : fitsT a ta = true) (f2 : fitsT b tb = true) :
  RepC c (mkPr a b) (c1 ++ c2) ∧ fitsT (mkPr a b) (.pair ta tb) = true := by
 have key : mkPr a b = .pr a b → RepC c (mkPr a b) (c1 ++ c2) ∧ fitsT (mkPr a b) (.pair ta tb) = true := fun e => by
  rw [e]
  refine ⟨by simp only [RepC]; exact ⟨c1, c2, rfl, h1, h2⟩, by simp [fitsT, f1, f2]⟩
 cases a with
 | data t x =>
  cases b with
  | data u y =>
   simp only [fitsT, decide_eq_true_eq] at f1 f2
   subst f1; subst f2
   simp only [RepC] at h1 h2
   refine ⟨by simp only [mkPr, RepC, RepD]; exact ⟨c1, c2, rfl, h1, h2⟩, by simp [mkPr, fitsT]⟩
  | _ => exact key rfl
 | _ => exact key rfl
theorem mkSt_rep {c : Cx} {a : AV} {ta : Ty} {c1 : List Value} (h1 : RepC c a c1) (f1 : fitsT a ta = true) : RepC c (mkSt a) c1 ∧ fitsT (mkSt a) (.st ta) = true := by
 cases a with
 | data t x =>
  simp only [fitsT, decide_eq_true_eq] at f1
  subst f1
  simp only [RepC] at h1
  exact ⟨by simpa only [mkSt, RepC, RepD] using h1, by simp [mkSt, fitsT]⟩
 | _ => exact ⟨by simpa only [mkSt, RepC] using h1, by simpa only [mkSt, fitsT] using f1⟩
theorem zeroCell_rep {c : Cx} {t : Ty} {v : Value} (h : zeroCell t v = true) : RepC c (zeroAV t) [v] ∧ fitsT (zeroAV t) t = true := by
 cases t with
 | bool => cases v <;> simp [zeroCell] at h; subst h; simp [zeroAV, RepC, RepD, Ty.zero, fitsT]
 | int k => cases v <;> simp [zeroCell] at h; obtain ⟨rfl, rfl⟩ := h; simp [zeroAV, RepC, RepD, Ty.zero, fitsT]
 | str =>
  cases v <;> simp [zeroCell] at h
  rename_i s
  obtain ⟨d⟩ := s
  obtain rfl : d = #[] := by injection h
  simp [zeroAV, RepC, RepD, Ty.zero, fitsT]
 | slice e =>
  cases v with
  | slice A n m =>
   cases A with
   | some a => simp [zeroCell] at h
   | none => cases n with
    | succ n => simp [zeroCell] at h
    | zero => cases m with
     | succ m => simp [zeroCell] at h
     | zero => simp [zeroAV, RepC, Rep1, fitsT]
  | _ => simp [zeroCell] at h
 | opq => simp only [zeroCell] at h; simp [zeroAV, RepC, fitsT, h]
 | _ => simp [zeroCell] at h
theorem zero_rep {c : Cx} : ∀ (t : Ty) (cs r : List Value), zeroRun t cs = some r → ∃ c1, cs = c1 ++ r ∧ RepC c (zeroAV t) c1 ∧ fitsT (zeroAV t) t = true := by
 intro t
 induction t with
 | st b ih =>
  intro cs r h
  simp only [zeroRun] at h
  obtain ⟨c1, e, h1, h2⟩ := ih cs r h
  obtain ⟨h3, h4⟩ := mkSt_rep h1 h2
  exact ⟨c1, e, h3, h4⟩
 | pair a b iha ihb =>
  intro cs r h
  simp only [zeroRun] at h
  split at h
  ·rename_i r' hr
   obtain ⟨c1, rfl, h1, h2⟩ := iha cs r' hr
   obtain ⟨c2, rfl, h3, h4⟩ := ihb r' r h
   obtain ⟨h5, h6⟩ := mkPr_rep h1 h3 h2 h4
   exact ⟨c1 ++ c2, by simp, h5, h6⟩
  ·cases h
 | _ =>
  intro cs r h
  cases cs with
  | nil => simp [zeroRun] at h
  | cons v l =>
   simp only [zeroRun] at h
   cases hz : zeroCell _ v with
   | false => rw [hz] at h; cases h
   | true =>
    rw [hz] at h
    injection h with h
    subst h
    obtain ⟨h1, h2⟩ := zeroCell_rep (c := c) hz
    exact ⟨[v], rfl, h1, h2⟩
theorem ok_zero {c : Cx} {t : Ty} {id : TypeId} (h : Ok P t (.typ id)) (w : World) : ∃ z, (zeroValue id).run P w = .ok z w ∧ RepC c (zeroAV t) z.cells.toList ∧ fitsT (zeroAV t) t = true := by
 have key : ∀ z n, Info P id n z → zeroRun t z.cells.toList = some [] → ∃ z, (zeroValue id).run P w = .ok z w ∧ RepC c (zeroAV t) z.cells.toList ∧ fitsT (zeroAV t) t = true := by
  rintro z n ⟨i, h1, h2, h3⟩ hz
  obtain ⟨c1, e, h4, h5⟩ := zero_rep (c := c) t _ _ hz
  refine ⟨z, by simp [zeroValue, typeInfo, h1, h3], ?_, h5⟩
  rw [e]; simpa using h4
 cases t with
 | unit => exact h.elim
 | map _ _ => exact h.elim
 | dmap _ _ => exact h.elim
 | slf => exact h.elim
 | bld _ _ => exact h.elim
 | pair a b => exact h.elim
 | bool => exact key _ _ h.2 (by simp [Value.cells, zeroRun, zeroCell])
 | int k => exact key _ _ h.2 (by simp [Value.cells, zeroRun, zeroCell])
 | str => obtain ⟨_, s, h1, h2⟩ := h; exact key _ _ h1 (by simp [Value.cells, zeroRun, zeroCell, h2])
 | slice e => exact key _ _ h.2 (by simp [Value.cells, zeroRun, zeroCell])
 | opq => obtain ⟨_, z, h1, h2⟩ := h; exact key _ _ h1 (by rw [oneCell_cells h2]; simp [zeroRun, zeroCell, h2])
 | st b => obtain ⟨_, zs, h1, h2⟩ := h; exact key _ _ h1 (by simpa [Value.cells, zeroRun] using h2)
theorem okE_zero {t : Ty} {id : TypeId} (h : OkE P t id) (w : World) (hl : ∀ {c : Cx} {u : AV} {cs : List Value}, fitsT u t = true → RepC c u cs → cs.length = t.size) : ∃ z, (zeroValue id).run P w = .ok z w ∧ z.cells.toList.length = t.size := by
 rcases h with h | ⟨rfl, _, zs, ⟨i, h1, h2, h3⟩, h4⟩
 ·obtain ⟨z, h1, h2, h3⟩ := ok_zero (c := ⟨fun _ => False, w, fun _ => none, fun _ => .box 0, 0⟩) h w
  exact ⟨z, h1, hl h3 h2⟩
 ·refine ⟨.agg zs, by simp [zeroValue, typeInfo, h1, h3], ?_⟩
  obtain ⟨c1, e, h5, h6⟩ := zero_rep (c := ⟨fun _ => False, w, fun _ => none, fun _ => .box 0, 0⟩) slfB _ _ h4
  show zs.toList.length = 8
  rw [e, List.append_nil]
  exact fits_len _ slfB _ h6 h5
def valOf (t : Ty) (cs : List Value) (v : Value) : Prop := (isSt t = true ∧ v = .agg cs.toArray) ∨ (isSt t = false ∧ cs = [v])
theorem repC_repV {c : Cx} {u : AV} {t : Ty} {cs : List Value} {v : Value} (f : fitsT u t = true) (hp : ∀ a b, t ≠ .pair a b) (h : RepC c u cs) (hv : valOf t cs v) : RepV c u v := by
 cases u with
 | data t' x =>
  simp only [fitsT, decide_eq_true_eq] at f
  subst f
  simp only [RepC] at h
  simp only [RepV]
  rcases hv with ⟨e, rfl⟩ | ⟨e, rfl⟩
  ·exact .inl ⟨e, _, rfl, by simpa using h⟩
  ·exact .inr ⟨e, h⟩
 | st a =>
  cases t with
  | st b =>
   rcases hv with ⟨e, rfl⟩ | ⟨e, rfl⟩
   ·simp only [RepC] at h
    simp only [RepV]
    exact ⟨_, rfl, by simpa using h⟩
   ·cases e
  | _ => simp [fitsT] at f
 | pr a r =>
  cases t with
  | pair ta tb => exact absurd rfl (hp ta tb)
  | _ => simp [fitsT] at f
 | undef => simp only [RepV]
 | unit => cases t <;> simp [fitsT] at f
 | tup b => cases t <;> simp [fitsT] at f
 | fn g d =>
  rcases hv with ⟨e, rfl⟩ | ⟨e, rfl⟩
  ·cases t <;> first | (simp [fitsT] at f; done) | cases e
  ·simp only [RepC] at h
   obtain ⟨vs, e', h⟩ := h
   injection e' with e'
   simp only [RepV]
   exact ⟨vs, e', h⟩
 | _ =>
  rcases hv with ⟨e, rfl⟩ | ⟨e, rfl⟩
  ·cases t <;> first | (simp [fitsT] at f; done) | cases e
  ·simpa only [RepC, RepV] using h
theorem run_load_ok {t : Ty} {id : TypeId} (h : Ok P t (.typ id)) {b o : Nat} {cs : List Value} (hm : Mem w b o cs) (hl : cs.length = t.size) :
  ∃ v, (Instr.loadAt id (.pointer (some ⟨b, o, none⟩))).run P w = .ok v w ∧ valOf t cs v := by
 have ha := ok_agg h w
 have hs := run_sizeOf_ok h w
 cases e : isSt t with
 | true =>
  rw [e] at ha
  refine ⟨.agg cs.toArray, ?_, .inl ⟨e, rfl⟩⟩
  have hc := run_loadCells_list (P := P) w ⟨b, o, none⟩ cs (fun j v hv => by rw [Addr.add_mid]; exact hm j v hv)
  rw [hl] at hc
  simp [Instr.loadAt, Instr.sureAddr, loadVar, ha, hs, hc]
 | false =>
  rw [e] at ha
  have h1 : t.size = 1 := by
   cases t <;> first | rfl | exact h.elim | cases e
  obtain ⟨v, rfl⟩ : ∃ v, cs = [v] := List.length_eq_one_iff.1 (by omega)
  refine ⟨v, ?_, .inr ⟨e, rfl⟩⟩
  have := hm 0 v rfl
  simp at this
  simp [Instr.loadAt, Instr.sureAddr, loadVar, ha, this]
theorem run_store_ok {t : Ty} {id : TypeId} (h : Ok P t (.typ id)) {b o : Nat} {cs : Array Value} {el : TypeId} {v : Value} (hw : w.heap[b]? = some (.cells cs el (0, 0)))
  (hl : v.cells.toList.length = t.size) (ho : o + t.size ≤ cs.size) (h1 : ∀ u ∈ v.cells.toList, u.oneCell' = true) :
  (Instr.storeAt id (.pointer (some ⟨b, o, none⟩)) v).run P w = .ok () (w.setRow b (cs.toList.take o ++ v.cells.toList ++ cs.toList.drop (o + t.size)).toArray) := by
 have hs := run_sizeOf_ok h w
 have := run_storeCells_at P b o el v.cells.toList 0 cs w hw (by simpa [hl] using ho) h1
 have hsz : v.cells.size = t.size := by simpa using hl
 simp only [Nat.add_zero] at this
 rw [hl] at this
 simp [Instr.storeAt, Instr.sureAddr, storeVar, hs, hsz, this]
def RepDV (Z : Nat → Prop) (w : World) (t : Ty) (x : t.D) (v : Value) : Prop := (isSt t = true ∧ ∃ cs, v = .agg cs ∧ RepD Z w t x cs.toList) ∨ (isSt t = false ∧ RepD Z w t x [v])
theorem eqs_leaf_flds {t : Ty} (hp : ∀ a r, t ≠ .pair a r) {l : List Field} {o : Nat} (h : Eqs P t (.flds l o)) : ∃ f, l = [f] ∧ f.offset = o ∧ f.name ≠ "_" ∧ Eqs P t (.typ f.type) := by
 cases t with
 | pair a r => exact absurd rfl (hp a r)
 | unit => exact h.elim
 | map _ _ => exact h.elim
 | dmap _ _ => exact h.elim
 | slf => exact h.elim
 | bld _ _ => exact h.elim
 | opq => exact h.elim
 | slice e => exact h.elim
 | _ => exact lift_flds h
theorem eqs_agg {t : Ty} {id : TypeId} (h : Eqs P t (.typ id)) (w : World) : (isAgg id).run P w = .ok (isSt t) w := by
 have key : ∀ d, P.underlying id = some d → d.isRow = isSt t → (isAgg id).run P w = .ok (isSt t) w := by
  intro d hu hd
  unfold isAgg
  rw [Sem.run_bind, run_underlying hu w]
  cases d <;> simp_all [TypeDesc.isRow]
 cases t with
 | st b => obtain ⟨⟨fs, h, _⟩, _⟩ := h; exact key _ h rfl
 | bool => exact key _ h rfl
 | int k => exact key _ h rfl
 | str => exact key _ h rfl
 | _ => exact h.elim
theorem run_part {t : Ty} {id : TypeId} (h : Eqs P t (.typ id)) {xs : Array Value} {p c s : List Value} (e : xs.toList = p ++ c ++ s) (hl : c.length = t.size) (w : World) :
  ∃ v, (part id xs p.length).run P w = .ok v w ∧ valOf t c v := by
 have ha := eqs_agg h w
 cases q : isSt t with
 | true =>
  rw [q] at ha
  refine ⟨.agg c.toArray, ?_, .inl ⟨q, rfl⟩⟩
  cases t with
  | st b =>
   obtain ⟨_, _, _, h4⟩ := h
   cases hi : P.info? id with
   | none => simp [hi] at h4
   | some i =>
    have hs : i.size = b.size := by simpa [hi] using h4
    have hx : xs.extract p.length (p.length + b.size) = c.toArray := by
     apply Array.toList_inj.1
     simp only [Ty.size] at hl
     rw [Array.toList_extract, e]
     simp [List.extract, ← hl]
    simp [part, ha, sizeOf, typeInfo, hi, hs, hx]
  | _ => cases q
 | false =>
  rw [q] at ha
  have h1 : t.size = 1 := by cases t <;> first | rfl | exact h.elim | cases q
  obtain ⟨v, rfl⟩ : ∃ v, c = [v] := List.length_eq_one_iff.1 (by omega)
  refine ⟨v, ?_, .inr ⟨q, rfl⟩⟩
  have : xs[p.length]? = some v := by
   rw [← Array.getElem?_toList, e]; simp
  simp [part, ha, this]
theorem equal_ok {Z : Nat → Prop} : ∀ (t : Ty),
  (∀ (id : TypeId) (x y : t.D) (u v : Value) (r : Bool) (d : Nat), Eqs P t (.typ id) → RepDV Z w t x u → RepDV Z w t y v → beqD t x y = some r → nest t ≤ d → (Op.equalIn (d + 1) id u v).run P w = .ok r w) ∧
  (∀ (l : List Field) (x y : t.D) (xs ys : Array Value) (p1 c1 s1 p2 c2 s2 : List Value) (r : Bool) (d : Nat), Eqs P t (.flds l p1.length) → p2.length = p1.length → xs.toList = p1 ++ c1 ++ s1 → ys.toList = p2 ++ c2 ++ s2 →
   RepD Z w t x c1 → RepD Z w t y c2 → beqD t x y = some r → nest t ≤ d → (Op.eqFields (d + 1) xs ys l).run P w = .ok r w) := by
 intro t
 have leaf : ∀ (t : Ty), (∀ a b, t ≠ .pair a b) → (∀ (id : TypeId) (x y : t.D) (u v : Value) (r : Bool) (d : Nat), Eqs P t (.typ id) → RepDV Z w t x u → RepDV Z w t y v → beqD t x y = some r → nest t ≤ d → (Op.equalIn (d + 1) id u v).run P w = .ok r w) →
   (∀ (l : List Field) (x y : t.D) (xs ys : Array Value) (p1 c1 s1 p2 c2 s2 : List Value) (r : Bool) (d : Nat), Eqs P t (.flds l p1.length) → p2.length = p1.length → xs.toList = p1 ++ c1 ++ s1 → ys.toList = p2 ++ c2 ++ s2 →
   RepD Z w t x c1 → RepD Z w t y c2 → beqD t x y = some r → nest t ≤ d → (Op.eqFields (d + 1) xs ys l).run P w = .ok r w) := by
  intro t hp A l x y xs ys p1 c1 s1 p2 c2 s2 r d h hp2 e1 e2 hx hy hr hd
  obtain ⟨f, rfl, ho, hne, hf⟩ := eqs_leaf_flds hp h
  obtain ⟨u, hu, hu'⟩ := run_part hf e1 hx.len w
  obtain ⟨v, hv, hv'⟩ := run_part hf e2 hy.len w
  rw [hp2] at hv
  have dv : ∀ {z : t.D} {cs : List Value} {q : Value}, RepD Z w t z cs → valOf t cs q → RepDV Z w t z q := by
   rintro z cs q hz (⟨e, rfl⟩ | ⟨e, rfl⟩)
   ·exact .inl ⟨e, _, rfl, by simpa using hz⟩
   ·exact .inr ⟨e, hz⟩
  have := A f.type x y u v r d hf (dv hx hu') (dv hy hv') hr hd
  rw [← ho] at hu hv
  simp only [Op.eqFields, hne, ne_eq, not_false_eq_true, if_true, Sem.run_bind, hu, hv, this, Result.andThen_ok, Sem.run_ite, Sem.run_pure]
  cases r <;> simp
 induction t with
 | bool =>
  have A : ∀ (id : TypeId) (x y : Ty.bool.D) (u v : Value) (r : Bool) (d : Nat), Eqs P .bool (.typ id) → RepDV Z w .bool x u → RepDV Z w .bool y v → beqD .bool x y = some r → nest .bool ≤ d → (Op.equalIn (d + 1) id u v).run P w = .ok r w := by
   intro id x y u v r d h hx hy hr hd
   rcases hx with ⟨e, _⟩ | ⟨_, hx⟩
   ·cases e
   rcases hy with ⟨e, _⟩ | ⟨_, hy⟩
   ·cases e
   simp only [RepD] at hx hy
   injection hx with hx
   injection hy with hy
   subst hx; subst hy
   simp only [beqD, Go.PG.P.beq] at hr
   injection hr with hr
   subst hr
   exact run_equalIn_bool' w d id x y h
  exact ⟨A, leaf _ (by intros; simp) A⟩
 | int k =>
  have A : ∀ (id : TypeId) (x y : (Ty.int k).D) (u v : Value) (r : Bool) (d : Nat), Eqs P (.int k) (.typ id) → RepDV Z w (.int k) x u → RepDV Z w (.int k) y v → beqD (.int k) x y = some r → nest (.int k) ≤ d → (Op.equalIn (d + 1) id u v).run P w = .ok r w := by
   intro id x y u v r d h hx hy hr hd
   rcases hx with ⟨e, _⟩ | ⟨_, hx⟩
   ·cases e
   rcases hy with ⟨e, _⟩ | ⟨_, hy⟩
   ·cases e
   simp only [RepD] at hx hy
   injection hx with hx
   injection hy with hy
   subst hx; subst hy
   simp only [beqD, Go.PG.P.ieq_def] at hr
   injection hr with hr
   subst hr
   exact run_equalIn_int w d id k k x y h
  exact ⟨A, leaf _ (by intros; simp) A⟩
 | str =>
  have A : ∀ (id : TypeId) (x y : Ty.str.D) (u v : Value) (r : Bool) (d : Nat), Eqs P .str (.typ id) → RepDV Z w .str x u → RepDV Z w .str y v → beqD .str x y = some r → nest .str ≤ d → (Op.equalIn (d + 1) id u v).run P w = .ok r w := by
   intro id x y u v r d h hx hy hr hd
   rcases hx with ⟨e, _⟩ | ⟨_, hx⟩
   ·cases e
   rcases hy with ⟨e, _⟩ | ⟨_, hy⟩
   ·cases e
   simp only [RepD] at hx hy
   injection hx with hx
   injection hy with hy
   subst hx; subst hy
   simp only [beqD, Go.PG.P.seq_eq] at hr
   injection hr with hr
   subst hr
   exact run_equalIn_string w d id x y h
  exact ⟨A, leaf _ (by intros; simp) A⟩
 | st b ih =>
  have A : ∀ (id : TypeId) (x y : (Ty.st b).D) (u v : Value) (r : Bool) (d : Nat), Eqs P (.st b) (.typ id) → RepDV Z w (.st b) x u → RepDV Z w (.st b) y v → beqD (.st b) x y = some r → nest (.st b) ≤ d → (Op.equalIn (d + 1) id u v).run P w = .ok r w := by
   intro id x y u v r d h hx hy hr hd
   obtain ⟨⟨fs, h1, h2⟩, h3, h4, _⟩ := h
   rcases hx with ⟨_, xs, rfl, hx⟩ | ⟨e, _⟩
   case inr => cases e
   rcases hy with ⟨_, ys, rfl, hy⟩ | ⟨e, _⟩
   case inr => cases e
   simp only [RepD] at hx hy
   simp only [beqD] at hr
   have hf : P.fieldsOf id = fs := by simp [Program.fieldsOf, h1]
   rw [run_equalIn_agg w d id xs ys (by rw [hf]; exact h1) h3, hf]
   simp only [nest] at hd
   obtain ⟨d, rfl⟩ : ∃ n, d = n + 1 := ⟨d - 1, by omega⟩
   exact ih.2 fs.toList x y xs ys [] xs.toList [] [] ys.toList [] r d h2 rfl (by simp) (by simp) hx hy hr (by omega)
  exact ⟨A, leaf _ (by intros; simp) A⟩
 | pair a b iha ihb =>
  refine ⟨fun id x y u v r d h => h.elim, fun l x y xs ys p1 c1 s1 p2 c2 s2 r d h hp2 e1 e2 hx hy hr hd => ?_⟩
  cases l with
  | nil => exact h.elim
  | cons f l =>
   obtain ⟨ho, hne, hf, hrest⟩ := h
   simp only [RepD] at hx hy
   obtain ⟨x1, x2, rfl, hx1, hx2⟩ := hx
   obtain ⟨y1, y2, rfl, hy1, hy2⟩ := hy
   simp only [beqD] at hr
   split at hr
   ·rename_i q1 hq1
    split at hr
    ·rename_i q2 hq2
     injection hr with hr
     subst hr
     simp only [nest] at hd
     obtain ⟨u, hu, hu'⟩ := run_part (xs := xs) (p := p1) (c := x1) (s := x2 ++ s1) hf (by simp [e1]) hx1.len w
     obtain ⟨v, hv, hv'⟩ := run_part (xs := ys) (p := p2) (c := y1) (s := y2 ++ s2) hf (by simp [e2]) hy1.len w
     rw [hp2] at hv
     have dv : ∀ {z : a.D} {cs : List Value} {q : Value}, RepD Z w a z cs → valOf a cs q → RepDV Z w a z q := by
      rintro z cs q hz (⟨e, rfl⟩ | ⟨e, rfl⟩)
      ·exact .inl ⟨e, _, rfl, by simpa using hz⟩
      ·exact .inr ⟨e, hz⟩
     have h1 := iha.1 f.type x.1 y.1 u v q1 d hf (dv hx1 hu') (dv hy1 hv') hq1 (by omega)
     have h2 := ihb.2 l x.2 y.2 xs ys (p1 ++ x1) x2 s1 (p2 ++ y1) y2 s2 q2 d (by simpa [hx1.len] using hrest) (by simp [hp2, hx1.len, hy1.len]) (by simp [e1]) (by simp [e2]) hx2 hy2 hq2 (by omega)
     rw [← ho] at hu hv
     simp only [Op.eqFields, hne, ne_eq, not_false_eq_true, if_true, Sem.run_bind, hu, hv, h1, Result.andThen_ok, Sem.run_ite, Sem.run_pure, h2, Go.PG.P.and]
     cases q1 <;> simp
    ·cases hr
   ·cases hr
 | unit => exact ⟨fun id x y u v r d h => h.elim, fun l x y xs ys p1 c1 s1 p2 c2 s2 r d h => h.elim⟩
 | map _ _ _ _ => exact ⟨fun id x y u v r d h => h.elim, fun l x y xs ys p1 c1 s1 p2 c2 s2 r d h => h.elim⟩
 | slf => exact ⟨fun id x y u v r d h => h.elim, fun l x y xs ys p1 c1 s1 p2 c2 s2 r d h => h.elim⟩
 | dmap _ _ _ _ => exact ⟨fun id x y u v r d h => h.elim, fun l x y xs ys p1 c1 s1 p2 c2 s2 r d h => h.elim⟩
 | bld _ _ => exact ⟨fun id x y u v r d h => h.elim, fun l x y xs ys p1 c1 s1 p2 c2 s2 r d h => h.elim⟩
 | opq => exact ⟨fun id x y u v r d h => h.elim, fun l x y xs ys p1 c1 s1 p2 c2 s2 r d h => h.elim⟩
 | slice e _ => exact ⟨fun id x y u v r d h => h.elim, fun l x y xs ys p1 c1 s1 p2 c2 s2 r d h => h.elim⟩
end Go.PG
end
section
namespace Go.PG
open Go.RowKit
theorem ofCell_rep {c : Cx} {t : Ty} {v : Value} {a : AV} (h : ofCell t v = some a) : RepC c a [v] ∧ fitsT a t = true := by
 cases t with
 | bool =>
  cases v <;> simp [ofCell] at h
  subst h; simp [RepC, RepD, fitsT]
 | int k =>
  cases v <;> simp [ofCell] at h
  rename_i k' n
  by_cases e : k' = k
  ·subst e; simp at h; subst h; simp [RepC, RepD, fitsT]
  ·simp [e] at h
 | str =>
  cases v <;> simp [ofCell] at h
  subst h; simp [RepC, RepD, fitsT]
 | slice e =>
  cases v with
  | slice A n m =>
   cases A with
   | some a => simp [ofCell] at h
   | none => cases n with
    | succ n => simp [ofCell] at h
    | zero => cases m with
     | succ m => simp [ofCell] at h
     | zero => simp [ofCell] at h; subst h; simp [RepC, Rep1, fitsT]
  | _ => simp [ofCell] at h
 | opq =>
  cases v <;> simp [ofCell] at h <;> subst h <;> simp [RepC, fitsT, Value.oneCell']
 | _ => simp [ofCell] at h
theorem ofCells_rep {c : Cx} : ∀ (t : Ty) (cs r : List Value) (a : AV), ofCells t cs = some (a, r) → ∃ c1, cs = c1 ++ r ∧ RepC c a c1 ∧ fitsT a t = true := by
 intro t
 induction t with
 | st b ih =>
  intro cs r a h
  simp only [ofCells] at h
  split at h
  ·rename_i x r' hx
   injection h with h
   injection h with h1 h2
   subst h1; subst h2
   obtain ⟨c1, e, h1, h2⟩ := ih cs r' x hx
   obtain ⟨h3, h4⟩ := mkSt_rep h1 h2
   exact ⟨c1, e, h3, h4⟩
  ·cases h
 | pair a b iha ihb =>
  intro cs r u h
  simp only [ofCells] at h
  split at h
  ·rename_i x r' hx
   split at h
   ·rename_i y r'' hy
    injection h with h
    injection h with h1 h2
    subst h1; subst h2
    obtain ⟨c1, rfl, h1, h2⟩ := iha cs r' x hx
    obtain ⟨c2, rfl, h3, h4⟩ := ihb r' r'' y hy
    obtain ⟨h5, h6⟩ := mkPr_rep h1 h3 h2 h4
    exact ⟨c1 ++ c2, by simp, h5, h6⟩
   ·cases h
  ·cases h
 | _ =>
  intro cs r a h
  cases cs with
  | nil => simp [ofCells] at h
  | cons v l =>
   simp only [ofCells] at h
   split at h
   ·rename_i x hx
    injection h with h
    injection h with h1 h2
    subst h1; subst h2
    obtain ⟨h1, h2⟩ := ofCell_rep (c := c) hx
    exact ⟨[v], rfl, h1, h2⟩
   ·cases h
theorem const_rep {c : Cx} (ty : Option Ty) (hp : ∀ a b, ty ≠ some (.pair a b)) (v : Value) : RepV c (constAV ty v) v := by
 cases ty with
 | none => cases v <;> simp [constAV, RepV, RepD, isSt]
 | some t =>
  have hp' : ∀ a b, t ≠ .pair a b := fun a b e => hp a b (by rw [e])
  have key : ∀ (cs : List Value), valOf t cs v → RepV c (match ofCells t cs with | some (a, []) => a | _ => AV.undef) v := by
   intro cs hv
   split
   ·rename_i a ha
    obtain ⟨c1, e, h1, h2⟩ := ofCells_rep (c := c) t _ _ _ ha
    simp at e
    subst e
    exact repC_repV h2 hp' h1 hv
   ·simp only [RepV]
  cases hs : isSt t with
  | true =>
   cases v with
   | agg cs => simp only [constAV, hs]; exact key cs.toList (.inl ⟨hs, by simp⟩)
   | _ => simp [constAV, hs, RepV]
  | false =>
   cases v with
   | agg cs => simp [constAV, hs, RepV]
   | tuple vs => simp [constAV, RepV]
   | _ => simp only [constAV, hs]; exact key _ (.inr ⟨hs, rfl⟩)
theorem opnd_rep {c : Cx} {fr : Nat → AV} {a : Act} (F : ∀ t, RepV c (fr t) (a.tmps.getD t undef)) (ty : Option Ty) (hp : ∀ a b, ty ≠ some (.pair a b)) (x : Operand) : RepV c (opnd ty fr x) (a.eval x) := by
 cases x with
 | tmp t => exact F t
 | const v => exact const_rep ty hp v
 | global g => simp only [opnd, RepV]
 | func f => simp only [opnd, RepV, Act.eval]; exact ⟨#[], rfl, by simp [RepT]⟩
def cz (Z : Nat → Prop) (w : World) : Cx := ⟨Z, w, fun _ => none, fun _ => .box 0, 0⟩
theorem cz_Z (Z : Nat → Prop) (w : World) (b : Nat) : (cz Z w).Z b ↔ Z b := by
 constructor
 ·rintro (z | ⟨id, e, q, _⟩)
  ·exact z
  ·cases q
 ·exact .inl
def SpecOk (P : Program) (G : World → Prop) (f : FuncId) (s : Spec) : Prop :=
 ∀ (Z : Nat → Prop) (w : World) (vals : Array Value) (x : s.a.D) (r : s.r.D), G w → (∀ b, Z b → b < w.heap.size) → s.F x = some r → RepT (cz Z w) (argAV s.a x) vals.toList →
  Calls P f vals w fun e w' => ∃ v, e = .returned v ∧ Below w.heap.size w w' ∧ RepV (cz Z w') (resAV s.r r) v
def MakerOk (P : Program) (G : World → Prop) (g : FuncId) (m : Maker) : Prop :=
 m.L.plain = true ∧ ∀ w : World, G w → Calls P g #[] w fun e w' => ∃ v b z t, e = .returned v ∧ Below w.heap.size w w' ∧ w.heap.size ≤ b ∧ w'.heap[b]? = some (.cells z t (0, 0)) ∧ (∀ c : Cx, RepC c m.v z.toList) ∧ fitsT m.v m.L = true ∧
  ∀ (c : Cx) (id : Nat), id < c.nx → c.M id = .box b → c.h id = some (.box m.v m.L) → RepV c (m.f id) v
def InplOk (P : Program) (G : World → Prop) (f : FuncId) (p : Inpl) : Prop :=
 p.e.flat = true ∧ ∀ (w : World) (A : Option Addr) (cap : Nat) (xs ys : List p.e.D), G w → p.F xs = some ys → xs.length ≤ cap →
  (xs = [] ∨ ∃ b o cs el, A = some ⟨b, o, none⟩ ∧ w.heap[b]? = some (.cells cs el (0, 0)) ∧ o + xs.length * p.e.size ≤ cs.size ∧ ∀ i x, xs[i]? = some x → ∃ d, RepD (fun _ => False) w p.e x d ∧ Mem w b (o + i * p.e.size) d) →
  Calls P f #[.slice A xs.length cap, .func (.func p.cmp) #[] #[]] w fun e w' => e = .returned (.tuple #[]) ∧ ys.length = xs.length ∧ w'.os = w.os ∧ w'.tape = w.tape ∧ w'.output = w.output ∧ w.heap.size ≤ w'.heap.size ∧
   (xs = [] → ∀ k, k < w.heap.size → w'.heap[k]? = w.heap[k]?) ∧
   ∀ b o cs el, xs ≠ [] → A = some ⟨b, o, none⟩ → w.heap[b]? = some (.cells cs el (0, 0)) → (∀ k, k < w.heap.size → k ≠ b → w'.heap[k]? = w.heap[k]?) ∧
    ∃ cs', w'.heap[b]? = some (.cells cs' el (0, 0)) ∧ cs'.size = cs.size ∧ ∀ i y, ys[i]? = some y → ∃ d, RepD (fun _ => False) w' p.e y d ∧ Mem w' b (o + i * p.e.size) d
def InsOk0 (P : Program) (G : World → Prop) (f : FuncId) (e : Ty) (bytes : Nat) : Prop :=
 ∀ (Z : Nat → Prop) (w : World) (A : Option Addr) (cap : Nat) (xs ys : List e.D) (n : Int) (vb vo vc : Nat), G w → xs.length ≤ cap → 0 ≤ n → n ≤ xs.length → 0 < ys.length → (xs.length + ys.length) * bytes ≤ 140737488355328 →
  (cap = 0 ∨ ∃ b o cs el, A = some ⟨b, o, none⟩ ∧ b ≠ vb ∧ w.heap[b]? = some (.cells cs el (0, 0)) ∧ o + cap * e.size ≤ cs.size ∧ ∀ i x, xs[i]? = some x → ∃ d, RepD Z w e x d ∧ Mem w b (o + i * e.size) d) →
  ys.length ≤ vc → (∀ i x, ys[i]? = some x → ∃ d, RepD Z w e x d ∧ Mem w vb (vo + i * e.size) d) →
  Calls P f #[.slice A xs.length cap, .int .i64 n, .slice (some ⟨vb, vo, none⟩) ys.length vc] w fun e' w' => ∃ b' o' cap' cs' el', e' = .returned (.slice (some ⟨b', o', none⟩) (PG.P.insAt xs n ys).length cap') ∧ (PG.P.insAt xs n ys).length ≤ cap' ∧
   w'.heap[b']? = some (.cells cs' el' (0, 0)) ∧ o' + cap' * e.size ≤ cs'.size ∧ (∀ i x, (PG.P.insAt xs n ys)[i]? = some x → ∃ d, RepD Z w e x d ∧ Mem w' b' (o' + i * e.size) d) ∧
   (w.heap.size ≤ b' ∨ cap ≠ 0 ∧ ∃ o, A = some ⟨b', o, none⟩) ∧ (∀ k, k < w.heap.size → (cap ≠ 0 → ∀ o, A ≠ some ⟨k, o, none⟩) → w'.heap[k]? = w.heap[k]?) ∧
   w'.os = w.os ∧ w'.tape = w.tape ∧ w'.output = w.output ∧ w.heap.size ≤ w'.heap.size
def DelOk (P : Program) (G : World → Prop) (f : FuncId) (e : Ty) : Prop :=
 ∀ (Z : Nat → Prop) (w : World) (A : Option Addr) (cap : Nat) (xs : List e.D) (i j : Int), G w → xs.length ≤ cap → 0 ≤ i → i ≤ j → j ≤ xs.length →
  (cap = 0 ∨ ∃ b o cs el, A = some ⟨b, o, none⟩ ∧ w.heap[b]? = some (.cells cs el (0, 0)) ∧ o + cap * e.size ≤ cs.size ∧ ∀ i x, xs[i]? = some x → ∃ d, RepD Z w e x d ∧ Mem w b (o + i * e.size) d) →
  Calls P f #[.slice A xs.length cap, .int .i64 i, .int .i64 j] w fun e' w' => e' = .returned (.slice A (PG.P.delAt xs i j).length cap) ∧
   (∀ k, k < w.heap.size → (cap ≠ 0 → ∀ o, A ≠ some ⟨k, o, none⟩) → w'.heap[k]? = w.heap[k]?) ∧
   (∀ b o cs el, cap ≠ 0 → A = some ⟨b, o, none⟩ → w.heap[b]? = some (.cells cs el (0, 0)) → ∃ cs', w'.heap[b]? = some (.cells cs' el (0, 0)) ∧ cs'.size = cs.size ∧
    ∀ k x, (PG.P.delAt xs i j)[k]? = some x → ∃ d, RepD Z w e x d ∧ Mem w' b (o + k * e.size) d) ∧
   w'.os = w.os ∧ w'.tape = w.tape ∧ w'.output = w.output ∧ w.heap.size ≤ w'.heap.size
def InsOk (P : Program) (G : World → Prop) (f : FuncId) (e : Ty) (bytes : Nat) : Prop := match bytes with
 | 0 => DelOk P G f e
 | b + 1 => InsOk0 P G f e (b + 1)
def WsOk (P : Program) (G : World → Prop) (f : FuncId) (T e : Nat) : Prop :=
 ∀ (w : World) (b : Nat) (x s : ByteArray) (ex : Nat → Prop), G w → BldIs w T e b x ex → x.size + s.size ≤ 140737488355328 →
  Calls P f #[.pointer (some ⟨b, 0, none⟩), .string s] w fun e' w' => e' = .returned (.tuple #[.int .i64 s.size, .nilIface]) ∧ (∃ ex', BldIs w' T e b (x ++ s) ex' ∧ ∀ g, ex' g → ex g ∨ w.heap.size ≤ g) ∧
   (∀ k, k < w.heap.size → k ≠ b → ¬ ex k → w'.heap[k]? = w.heap[k]?) ∧ w'.os = w.os ∧ w'.tape = w.tape ∧ w'.output = w.output ∧ w.heap.size ≤ w'.heap.size
def BsOk (P : Program) (G : World → Prop) (f : FuncId) (T e : Nat) : Prop :=
 ∀ (w : World) (b : Nat) (x : ByteArray) (ex : Nat → Prop), G w → BldIs w T e b x ex →
  Calls P f #[.pointer (some ⟨b, 0, none⟩)] w fun e' w' => e' = .returned (.string x) ∧ (∃ ex', BldIs w' T e b x ex' ∧ ∀ g, ex' g → ex g ∨ w.heap.size ≤ g) ∧
   (∀ k, k < w.heap.size → k ≠ b → ¬ ex k → w'.heap[k]? = w.heap[k]?) ∧ w'.os = w.os ∧ w'.tape = w.tape ∧ w'.output = w.output ∧ w.heap.size ≤ w'.heap.size
def BwOk (P : Program) (G : World → Prop) (f : FuncId) (T e : Nat) : Nat → Prop
 | 0 => WsOk P G f T e
 | 1 => BsOk P G f T e
 | _ => True
def OSpecOk (P : Program) (G : World → Prop) (f : FuncId) (s : OSpec) : Prop :=
 ∀ (Z : Nat → Prop) (w : World) (vals : Array Value) (x : s.a.D) (r : List s.e.D), G w → (∀ b, Z b → b < w.heap.size) → s.F x = some r → RepT (cz Z w) (argAV s.a x) vals.toList →
  Calls P f vals w fun e w' => ∃ A cap, e = .returned (.slice A r.length cap) ∧ r.length ≤ cap ∧ Below w.heap.size w w' ∧ (cap = 0 ∨ cap ≠ 0 ∧ ∃ b o cs el, A = some ⟨b, o, none⟩ ∧ w.heap.size ≤ b ∧ w'.heap[b]? = some (.cells cs el (0, 0)) ∧ o + cap * s.e.size ≤ cs.size ∧
   ∀ i y, r[i]? = some y → ∃ d, RepD (fun k => Z k ∨ k = b) w' s.e y d ∧ Mem w' b (o + i * s.e.size) d)
structure EnvOk (P : Program) (G : World → Prop) (E : Env) : Prop where
 ty : ∀ t ty, E.ty t = some ty → Ok P ty (.typ t)
 bytes : ∀ t r e, look E.T t = some r → r.ty = .slice e → ∃ e' i, P.underlying t = some (.slice e') ∧ P.info? e' = some i ∧ i.bytes = r.bytes ∧ OkE P e e' ∧ 0 < r.bytes
 eq : ∀ t r, look E.T t = some r → r.eq = true → Eqs P r.ty (.typ t) ∧ nest r.ty ≤ 9000
 specs : ∀ f s, look E.specs f = some s → SpecOk P G f s ∧ (P.funcs[f]?).any (fun fn => fn.name != "runtime.NumGoroutine" && fn.body.isSome) = true
 codes : ∀ f fn hs, look E.codes f = some (fn, hs) → P.funcs[f]? = some fn ∧ (fn.name != "runtime.NumGoroutine" && fn.body.isSome) = true
 arr : ∀ t r b, look E.T t = some r → r.ty = .st b → (r.arr = true → ∃ n e, P.underlying t = some (.array n e)) ∧ (r.arr = false → ∃ fs, P.underlying t = some (.struct fs))
 lays : ∀ f m, look E.lays f = some m → MakerOk P G f m ∧ (P.funcs[f]?).any (fun fn => fn.name != "runtime.NumGoroutine" && fn.body.isSome) = true
 inpl : ∀ f p, look E.inpl f = some p → InplOk P G f p ∧ (P.funcs[f]?).any (fun fn => fn.name != "runtime.NumGoroutine" && fn.body.isSome) = true
 ins : ∀ f p, look E.ins f = some p → InsOk P G f p.1 p.2 ∧ (∃ t, Ok P p.1 (.typ t)) ∧ (P.funcs[f]?).any (fun fn => fn.name != "runtime.NumGoroutine" && fn.body.isSome) = true
 maps : ∀ t kt vt, look E.maps t = some (kt, vt) → ∃ k e, P.underlying t = some (.map k e) ∧ Eqs P kt (.typ k) ∧ nest kt ≤ 9000 ∧ (∀ a b, kt ≠ .pair a b) ∧ Ok P vt (.typ e) ∧ dataTy vt = true
 dmaps : ∀ t kt et, look E.dmaps t = some (kt, et) → ∃ k e, P.underlying t = some (.map k e) ∧ Eqs P kt (.typ k) ∧ nest kt ≤ 9000 ∧ (∀ a b, kt ≠ .pair a b) ∧ Ok P (.slice et) (.typ e)
 blds : ∀ t e, look E.blds t = some e → ∃ i, P.info? t = some i ∧ i.zero = some (.agg #[.pointer none, .slice none 0 0])
 bw : ∀ f k, look E.bw f = some k → (∀ T e, look E.blds T = some e → BwOk P G f T e k) ∧ (P.funcs[f]?).any (fun fn => fn.name != "runtime.NumGoroutine" && fn.body.isSome) = true
 drows : ∀ t e b, look E.drows t = some (e, b) → ∃ e' i, P.underlying t = some (.slice e') ∧ P.info? e' = some i ∧ i.bytes = b ∧ 0 < b ∧ Ok P (.slice e) (.typ e') ∧ E.ty t = some (.slice (.slice e))
 ospecs : ∀ f s, look E.ospecs f = some s → OSpecOk P G f s ∧ (P.funcs[f]?).any (fun fn => fn.name != "runtime.NumGoroutine" && fn.body.isSome) = true
 mixed : P.follows .mixedOrders = true
 G : ∀ w w', G w → Below w.heap.size w w' → G w'
theorem EnvOk.veil {P : Program} {G : World → Prop} {E : Env} (h : EnvOk P G E) : EnvOk P G E.veil :=
 ⟨h.ty, h.bytes, h.eq, h.specs, h.codes, h.arr, h.lays, h.inpl, h.ins, h.maps, h.dmaps, h.blds, h.bw, h.drows, h.ospecs, h.mixed, h.G⟩
theorem EnvOk.lax {P : Program} {G : World → Prop} {E : Env} (h : EnvOk P G E) : EnvOk P G E.lax :=
 ⟨h.ty, h.bytes, h.eq, h.specs, h.codes, h.arr, h.lays, h.inpl, h.ins, h.maps, h.dmaps, h.blds, h.bw, h.drows, h.ospecs, h.mixed, h.G⟩
theorem EnvOk.row {E : Env} {t : TypeId} {ty : Ty} (h : E.ty t = some ty) : ∃ r, look E.T t = some r ∧ r.ty = ty := by
 unfold Env.ty at h
 split at h
 ·rename_i r e
  injection h with h
  exact ⟨r, e, h⟩
 ·cases h
theorem EnvOk.struct {P : Program} {G : World → Prop} {E : Env} (h : EnvOk P G E) {t : TypeId} {b : Ty} (hty : E.ty t = some (.st b)) (ha : isArr E t = false) : ∃ fs, P.underlying t = some (.struct fs) := by
 obtain ⟨r, h1, h2⟩ := EnvOk.row hty
 simp only [isArr, h1] at ha
 exact (h.arr t r b h1 h2).2 ha
theorem EnvOk.array {P : Program} {G : World → Prop} {E : Env} (h : EnvOk P G E) {t : TypeId} {b : Ty} (hty : E.ty t = some (.st b)) (ha : isArr E t = true) : ∃ n e, P.underlying t = some (.array n e) := by
 obtain ⟨r, h1, h2⟩ := EnvOk.row hty
 simp only [isArr, h1] at ha
 exact (h.arr t r b h1 h2).1 ha
theorem EnvOk.noPair {P : Program} {G : World → Prop} {E : Env} (h : EnvOk P G E) (t : TypeId) : ∀ a b, E.ty t ≠ some (.pair a b) := fun _ _ e => h.ty t _ e
def Does (P : Program) (o : Oper) (a : Act) (w : World) (R : Value → World → Prop) : Prop :=
 ∀ (next : Act → World → Prop) (Q : Exit → Act → World → Prop), (∀ v w', R v w' → next (a.put o.dst v) w') → o.wp P a w next Q
theorem Does.value {P : Program} {o : Oper} {a : Act} {w w' : World} {v : Value} {R : Value → World → Prop} (h : (execOp a.eval o).run P w = .ok (.value v) w') (hR : R v w') : Does P o a w R := by
 intro next Q hn
 unfold Oper.wp
 rw [h, Oper.upon_value]
 exact hn v w' hR
theorem Does.skip {P : Program} {o : Oper} {a : Act} {w w' : World} {R : Value → World → Prop} (h : (execOp a.eval o).run P w = .ok .skip w') (hR : R undef w') : Does P o a w R := by
 intro next Q hn
 unfold Oper.wp
 rw [h, Oper.upon_skip]
 exact hn _ w' hR
theorem Does.enter {P : Program} {o : Oper} {a : Act} {w : World} {f : FuncId} {args : Array Value} {R : Value → World → Prop} (h : (execOp a.eval o).run P w = .ok (.enter f args) w)
  (hc : Calls P f args w fun e w' => ∃ v, e = .returned v ∧ R v w') : Does P o a w R := by
 intro next Q hn
 unfold Oper.wp
 rw [h, Oper.upon_enter]
 exact hc.mono fun e w' ⟨v, e1, hR⟩ => by subst e1; exact hn v w' hR
def Post {ρ : Type} (K : AV → Hp → Option ρ) (r : ρ) (S : Nat → Prop) (B : Nat) (w0 : World) (h : Hp) (M : Nat → Bk) (w : World) (v : Value) (w' : World) : Prop :=
 ∃ av h' M', K av h' = some r ∧ HInv S B w0 h' M' w' ∧ HStp S h M w h' M' w' ∧ RepV (cx S h' M' w') av v
variable {P : Program} {G : World → Prop} {E : Env} {S : Nat → Prop} {B : Nat} {w0 w : World} {h : Hp} {M : Nat → Bk} {ρ : Type} {K : AV → Hp → Option ρ} {r : ρ}
theorem Post.same (H : HInv S B w0 h M w) {av : AV} {v : Value} (hk : K av h = some r) (hv : RepV (cx S h M w) av v) : Post K r S B w0 h M w v w :=
 ⟨av, h, M, hk, H, HStp.refl H, hv⟩
def HandlerOk (P : Program) (G : World → Prop) (S : Nat → Prop) (B : Nat) (w0 : World) (call : Handler) : Prop :=
 ∀ {ρ : Type} (f : FuncId) (args : List AV) (h : Hp) (K : AV → Hp → Option ρ) (r : ρ) (M : Nat → Bk) (w : World) (vals : Array Value),
  call f args h K = some r → HInv S B w0 h M w → G w → (args.length = vals.size ∧ ∀ (i : Nat) (a : AV) (v : Value), args[i]? = some a → vals[i]? = some v → RepV (cx S h M w) a v) →
  (P.funcs[f]?).any (fun fn => fn.name != "runtime.NumGoroutine" && fn.body.isSome) = true ∧ Calls P f vals w fun e w' => ∃ v, e = .returned v ∧ Post K r S B w0 h M w v w'
theorem below_alloc' (H : HInv S B w0 h M w) (o : Obj) : Below B w (w.alloc o) := (Below.refl _ _).alloc H.bsz o
theorem alloc_get (w : World) (o : Obj) : (w.alloc o).heap[w.heap.size]? = some o := by
 show (w.heap.push o)[w.heap.size]? = _
 simp
theorem alloc_old (w : World) (o : Obj) (b : Nat) (hb : b < w.heap.size) : (w.alloc o).heap[b]? = w.heap[b]? := Below.heap_alloc w o b hb
theorem alloc_size (w : World) (o : Obj) : (w.alloc o).heap.size = w.heap.size + 1 := by
 show (w.heap.push o).size = _
 simp
theorem plain_of_ok {t : Ty} {id : TypeId} (h : Ok P t (.typ id)) : t.plain = true := by cases t <;> first | rfl | exact h.elim
theorem plain_of_offs {L u : Ty} {p : List Nat} {o : Nat} {id : TypeId} (h : offs L p = some (o, u)) (hu : Ok P u (.typ id)) : L.plain = true := by
 cases p with
 | nil =>
  simp only [offs] at h
  injection h with h
  injection h with _ h
  subst h
  exact plain_of_ok hu
 | cons j p => cases L <;> first | rfl | simp [offs] at h
theorem ent_box (H : HInv S B w0 h M w) {id : Nat} {v : AV} {L : Ty} (he : h.e id = some (.box v L)) (hL : L.plain = true) : ∃ (b : Nat) (cs : Array Value) (el : TypeId), M id = .box b ∧ w.heap[b]? = some (.cells cs el (0, 0)) ∧ fitsT v L = true ∧ RepC (cx S h M w) v cs.toList := by
 obtain ⟨b, cs, h1, h2, h3⟩ := H.ent id _ he
 obtain ⟨el, h4, h5⟩ := h1.cells hL
 exact ⟨b, cs.toArray, el, h4, h5, h2, by simpa using h3⟩
theorem row_has {b o n cap : Nat} (h : cap ≠ 0) : (Bk.row (some ⟨b, o, none⟩) n cap).has b := .inl (blk_row h)
theorem has_some {A : Option Addr} {n cap b : Nat} (h : (Bk.row A n cap).has b) : cap ≠ 0 ∧ ∃ a, A = some a ∧ a.block = b := by
 rcases h with h | h
 ·exact blk_some h
 ·exact h.elim
theorem new_boxH (H : HInv S B w0 h M w) {av : AV} {L : Ty} {cs : List Value} {bk : Bk} {o : Obj} (f : fitsT av L = true) (hr : RepC (cx S h M w) av cs) (hh : Holds (w.alloc o) bk w.heap.size L cs) (hb : ∀ b, bk.has b → w.heap.size ≤ b) :
  HInv S B w0 (h.new (.box av L)) (set1 M h.next bk) (w.alloc o) ∧ HStp S h M w (h.new (.box av L)) (set1 M h.next bk) (w.alloc o) :=
 H.new (.box av L) bk (w' := w.alloc o) (fun b hb => alloc_old w _ b hb) (by rw [alloc_size]; omega) (below_alloc' H _) hb
  (fun _ k => ⟨w.heap.size, cs, by simpa [cx, set1, Nat.beq_refl] using hh, f, RepC.tr k _ _ hr⟩)
theorem box_has {b x : Nat} (h : (Bk.box b).has x) : x = b := by
 rcases h with h | h
 ·injection h with h; exact h.symm
 ·exact h.elim
theorem new_box (H : HInv S B w0 h M w) {av : AV} {L : Ty} {cs : Array Value} (el : TypeId) (hL : L.plain = true) (f : fitsT av L = true) (hr : RepC (cx S h M w) av cs.toList) (hk : K (.ptr h.next []) (h.new (.box av L)) = some r) :
  Post K r S B w0 h M w (.pointer (some ⟨w.heap.size, 0, none⟩)) (w.alloc (.cells cs el (0, 0))) := by
 obtain ⟨H', k⟩ := new_boxH H (bk := .box w.heap.size) (o := .cells cs el (0, 0)) f hr (Holds.of hL (el := el) rfl (by rw [alloc_get])) (fun b hb => by rw [box_has hb]; exact Nat.le_refl _)
 refine ⟨.ptr h.next [], _, _, hk, H', k, ?_⟩
 simp only [RepV, Rep1]
 refine ⟨by simp [cx, Hp.new], _, rfl, .inr ⟨w.heap.size, av, L, 0, L, by simp [cx, set1, Nat.beq_refl, Bk.at], by simp [cx, Hp.new, set1, Nat.beq_refl], rfl, rfl⟩⟩
end Go.PG
end
section
namespace Go.PG
open Go.RowKit
variable {Pg : Program} {G : World → Prop} {E : Env} {S : Nat → Prop} {B : Nat} {w0 w : World} {M : Nat → Bk} {ρ : Type} {K : AV → Hp → Option ρ} {r : ρ} {st : St} {a : Act} {o : Oper}
theorem offs_snoc : ∀ (p : List Nat) (L : Ty) (o : Nat) (b t : Ty) (j : Nat), offs L p = some (o, .st b) → b.nth j = some t → offs L (p ++ [j]) = some (o + b.off j, t) := by
 intro p
 induction p with
 | nil =>
  intro L o b t j h hn
  simp only [offs] at h
  injection h with h
  injection h with h1 h2
  subst h1; subst h2
  simp [offs, hn]
 | cons i p ih =>
  intro L o b t j h hn
  cases L with
  | st c =>
   simp only [offs] at h
   simp only [List.cons_append, offs]
   split at h
   ·rename_i t' ht'
    split at h
    ·rename_i o' u' hu'
     injection h with h
     injection h with h1 h2
     subst h1; subst h2
     rw [ih t' o' b t j hu' hn]
     simp
     omega
    ·cases h
   ·cases h
  | _ => simp [offs] at h
theorem addPath_spec {ty : TypeId → Option Ty} {s : TypeId} {L : Ty} {p : List Nat} {j : Nat} (h : addPath ty s L p j = true) :
  ∃ o b t, offs L p = some (o, .st b) ∧ ty s = some (.st b) ∧ b.nth j = some t ∧ offs L (p ++ [j]) = some (o + b.off j, t) := by
 unfold addPath at h
 split at h
 ·rename_i o b e
  split at h
  ·rename_i t e1 e2
   exact ⟨o, b, t, e, by simpa using e1, e2, offs_snoc p L o b t j e e2⟩
  ·cases h
 ·cases h
theorem run_fieldAt {b : Ty} {s : TypeId} (hs : Ok Pg (.st b) (.typ s)) {j : Nat} {t : Ty} (hn : b.nth j = some t) (fs : Array Field) (hu : Pg.underlying s = some (.struct fs)) (bl o : Nat) (w : World) :
  (Instr.fieldAt s (.pointer (some ⟨bl, o, none⟩)) j).run Pg w = .ok (.pointer (some ⟨bl, o + b.off j, none⟩)) w := by
 obtain ⟨h | h, _⟩ := hs
 ·obtain ⟨fs', h1, h2⟩ := h
  rw [hu] at h1
  injection h1 with h1
  injection h1 with h1
  subst h1
  obtain ⟨f, h3, h4, h5⟩ := ok_field b _ 0 j t h2 hn
  have h3' : fs[j]? = some f := by simpa using h3
  have hsz := run_sizeOf_ok h5 w
  have hpos := ok_pos t _ h5
  simp [Instr.fieldAt, run_underlying hu, h3', Instr.sureAddr, fieldPlace, hsz, Nat.ne_of_gt hpos, h4, Addr.add_mid]
 ·obtain ⟨n, e, h1, _⟩ := h
  rw [hu] at h1
  cases h1
theorem run_indexArr {b : Ty} {s : TypeId} (hs : Ok Pg (.st b) (.typ s)) {j : Nat} {t : Ty} (hn : b.nth j = some t) (n : Nat) (e : TypeId) (hu : Pg.underlying s = some (.array n e)) (bl o : Nat) (k : IntKind) (w : World) :
  (Instr.indexAt s (.pointer (some ⟨bl, o, none⟩)) (.int k (j : Int))).run Pg w = .ok (.pointer (some ⟨bl, o + b.off j, none⟩)) w := by
 obtain ⟨h | h, _⟩ := hs
 ·obtain ⟨fs', h1, h2⟩ := h
  rw [hu] at h1
  cases h1
 ·obtain ⟨n', e', h1, h2⟩ := h
  rw [hu] at h1
  injection h1 with h1
  injection h1 with h1 h1'
  subst h1; subst h1'
  obtain ⟨hj, h3, h4⟩ := ok_elem b n j e t h2 hn
  obtain ⟨i, hi, hsz⟩ := ok_size h3
  have h5 := h4 i hi
  simp [Instr.indexAt, asIntOf, run_underlying hu, Instr.sureAddr, sizeOf, typeInfo, hi, h5, Addr.add_mid]
  intro; omega
theorem run_indexSlice {e : Ty} {s e' : TypeId} (hu : Pg.underlying s = some (.slice e')) (he : OkE Pg e e') (bl o n c : Nat) (i : Int) (k : IntKind) (h0 : 0 ≤ i) (h1 : i < n) (w : World) :
  (Instr.indexAt s (.slice (some ⟨bl, o, none⟩) n c) (.int k i)).run Pg w = .ok (.pointer (some ⟨bl, o + i.toNat * e.size, none⟩)) w := by
 have hsz := run_sizeOf_okE he w
 simp [Instr.indexAt, asIntOf, run_underlying hu, hsz, h0, h1, Addr.add_mid]
theorem mem_part {w : World} {b o : Nat} {c1 c c2 : List Value} (h : Mem w b o (c1 ++ c ++ c2)) : Mem w b (o + c1.length) c := by
 intro j v hv
 have := h (c1.length + j) v (by
  rw [List.append_assoc, List.getElem?_append_right (by omega)]
  simp only [Nat.add_sub_cancel_left]
  rw [List.getElem?_append_left (by exact (List.getElem?_eq_some_iff.1 hv).1)]
  exact hv)
 rw [Nat.add_assoc]
 exact this
theorem mem_of_heap {w : World} {b : Nat} {cs : Array Value} {el : TypeId} {fz : Nat × Nat} (h : w.heap[b]? = some (.cells cs el fz)) : Mem w b 0 cs.toList := by
 intro j v hv
 simp only [World.cell?, h, Nat.zero_add]
 simpa using hv
theorem inb_spec {i : Int} {n : Int} (h : P.inb i n = true) : 0 ≤ i ∧ i < n := by
 simp only [P.inb_def] at h
 simpa using h
theorem test_some {b : Bool} {x : Option ρ} (h : test b x = some r) : b = true ∧ x = some r := by
 unfold test P.cond at h
 cases b with
 | true => exact ⟨rfl, h⟩
 | false => cases h
theorem toNat_get {α : Type} {l : List α} {i : Int} {d : α} (h : P.inb i (P.len l) = true) : l[i.toNat]? = some (P.get l i d) := by
 obtain ⟨h0, h1⟩ := inb_spec h
 unfold P.len at h1
 have : i.toNat < l.length := by omega
 simp only [P.get_def]
 rw [List.getD_eq_getElem?_getD, List.getElem?_eq_getElem this]
 rfl
theorem load_ok (HE : EnvOk Pg G E) (F : ∀ t, RepV (cx S st.h M w) (st.fr t) (a.tmps.getD t undef)) (H : HInv S B w0 st.h M w) {t : TypeId} {x : Operand} (ho : o.op = .load t x)
  (hr : (match opnd none st.fr x with
  | .rptr u x => match decide (E.ty t = some u) with
   | true => K (.data u x) st.h
   | false => none
  | .ptr id p => match st.h.e id with
   | some (.box v L) => match offs L p with
    | some (_, u) => match decide (E.ty t = some u), v.get p with
     | true, some y => K y st.h
     | _, _ => none
    | none => none
   | _ => none
  | .eptr id i p => match st.h.e id with
   | some (.row e xs) => match offs e p with
    | some (_, u) => match decide (E.ty t = some u), (AV.data e (P.get xs i e.zero)).get p with
     | true, some y => K y st.h
     | _, _ => none
    | none => none
   | _ => none
  | _ => none) = some r) : Does Pg o a w (Post K r S B w0 st.h M w) := by
 have hx := opnd_rep F none (by intros; simp) x
 split at hr
 ·rename_i u y e
  rw [e] at hx
  split at hr
  ·rename_i hd
   have hty : E.ty t = some u := by simpa using hd
   simp only [RepV, Rep1] at hx
   obtain ⟨b, of, d, hv, hb, hz, hrep, hm⟩ := hx
   injection hv with hv
   have hm : Mem w b of d := hm
   obtain ⟨v, h1, h2⟩ := run_load_ok (HE.ty t u hty) hm hrep.len
   refine Does.value (v := v) (w' := w) ?_ (Post.same H hr ?_)
   ·simp only [execOp, ho, hv, Sem.run_bind, h1]; rfl
   ·exact repC_repV (t := u) (by simp [fitsT]) (fun a b q => HE.noPair t a b (by rw [hty, q])) (by simpa only [RepC] using hrep) h2
  ·cases hr
 ·rename_i id p e
  rw [e] at hx
  split at hr
  ·rename_i v L he
   split at hr
   ·rename_i off u hoff
    split at hr
    ·rename_i y hd hy
     have hty : E.ty t = some u := by simpa using hd
     simp only [RepV, Rep1] at hx
     obtain ⟨_, q, hv, hx⟩ := hx
     injection hv with hv
     rcases hx with hx | ⟨b, v', L', o', u', hM, he', ho', rfl⟩
     ·simp only [cx] at hx; rw [he] at hx; cases hx
     ·simp only [cx] at he' hM
      rw [he] at he'
      injection he' with he'
      injection he' with e1 e2
      subst e1; subst e2
      rw [hoff] at ho'
      injection ho' with ho'
      injection ho' with e1 e2
      subst e1; subst e2
      obtain ⟨b', cs, el, hM', hheap, hfit, hrep⟩ := ent_box H he (plain_of_offs hoff (HE.ty t u hty))
      rw [hM'] at hM
      injection hM with hM
      have hM := hM.symm
      subst hM
      obtain ⟨fy, c1, d, c2, ecs, hl, hd'⟩ := av_get p v L y cs.toList off u hy hoff hfit hrep
      have hm : Mem w b off d := by
       have := mem_part (o := 0) (by rw [← ecs]; exact mem_of_heap hheap)
       rwa [Nat.zero_add, hl] at this
      obtain ⟨q, h1, h2⟩ := run_load_ok (HE.ty t u hty) hm (fits_len y u d fy hd')
      refine Does.value (v := q) (w' := w) ?_ (Post.same H hr ?_)
      ·simp only [execOp, ho, hv, Sem.run_bind, h1]; rfl
      ·exact repC_repV fy (fun a b q => HE.noPair t a b (by rw [hty, q])) hd' h2
    ·cases hr
   ·cases hr
  ·cases hr
 ·rename_i id i p e
  rw [e] at hx
  split at hr
  ·rename_i et xs he
   split at hr
   ·rename_i off u hoff
    split at hr
    ·rename_i y hd hy
     have hty : E.ty t = some u := by simpa using hd
     simp only [RepV, Rep1] at hx
     obtain ⟨_, q, hv, hx⟩ := hx
     injection hv with hv
     rcases hx with hx | ⟨b, o', n, cap, et', xs', q', u', hM, he', h0, h1, ho', rfl⟩
     ·simp only [cx] at hx; rw [he] at hx; cases hx
     ·simp only [cx] at he' hM
      rw [he] at he'
      injection he' with he'
      injection he' with e1 e2
      subst e1
      have e2 := eq_of_heq e2
      subst e2
      rw [hoff] at ho'
      injection ho' with ho'
      injection ho' with e1 e2
      subst e1; subst e2
      obtain ⟨A, cap', hM', hle', hrow⟩ := H.ent id _ he
      simp only [cx] at hM' hrow
      rw [hM] at hM'
      injection hM' with e1 e2 e3
      subst e1; subst e3
      rcases hrow with hrow | ⟨_, b', o2, cs, el, hA, hheap, hfit, hel⟩
      ·omega
      ·injection hA with hA
       injection hA with e1 e2
       subst e1; subst e2
       have hget : xs[i.toNat]? = some (P.get xs i et.zero) := toNat_get (by simp only [P.inb_def, P.len]; simp; omega)
       obtain ⟨d, hd1, hd2⟩ := hel i.toNat _ hget
       obtain ⟨fy, c1, d', c2, ecs, hl, hd'⟩ := av_get p (.data et (P.get xs i et.zero)) et y d off u hy hoff (by simp [fitsT]) (by simpa only [RepC] using hd1)
       have hm : Mem w b (o' + i.toNat * et.size + off) d' := by
        have := mem_part (by rw [← ecs]; exact hd2)
        rwa [hl] at this
       obtain ⟨q, g1, g2⟩ := run_load_ok (HE.ty t u hty) hm (fits_len y u d' fy hd')
       refine Does.value (v := q) (w' := w) ?_ (Post.same H hr ?_)
       ·simp only [execOp, ho, hv, Sem.run_bind, g1]; rfl
       ·exact repC_repV fy (fun a b q => HE.noPair t a b (by rw [hty, q])) hd' g2
    ·cases hr
   ·cases hr
  ·cases hr
 ·cases hr
theorem memb_false {i : Nat} : ∀ {l : List Nat}, memb i l = false → i ∉ l := by
 intro l
 induction l with
 | nil => simp
 | cons j l ih =>
  intro h
  simp only [memb] at h
  split at h
  ·cases h
  ·rename_i hj
   rintro q
   rcases List.mem_cons.1 q with rfl | q
   ·rw [Nat.beq_refl] at hj; cases hj
   ·exact ih h q
theorem setRow_below (H : HInv S B w0 st.h M w) {b : Nat} (hb : B ≤ b) (cs : Array Value) : Below B w (w.setRow b cs) :=
 ⟨rfl, rfl, rfl, by simp, fun k hk => setRow_other w b k cs (by omega)⟩
theorem take_splice {c1 e c2 d : List Value} {o n : Nat} (h1 : c1.length = o) (h2 : e.length = n) : (c1 ++ e ++ c2).take o ++ d ++ (c1 ++ e ++ c2).drop (o + n) = c1 ++ d ++ c2 := by
 subst h1; subst h2
 simp [List.drop_append]
theorem cell_splice {c1 e c2 d : List Value} (hl : e.length = d.length) (j : Nat) : (c1 ++ d ++ c2)[j]? = if j < c1.length then (c1 ++ e ++ c2)[j]? else if j < c1.length + d.length then d[j - c1.length]? else (c1 ++ e ++ c2)[j]? := by
 by_cases h1 : j < c1.length
 ·simp [h1, List.getElem?_append_left]
 ·by_cases h2 : j < c1.length + d.length
  ·simp only [h1, h2, if_true, if_false]
   rw [List.append_assoc, List.getElem?_append_right (by omega), List.getElem?_append_left (by omega)]
  ·simp only [h1, h2, if_false]
   rw [List.getElem?_append_right (by simp <;> omega), List.getElem?_append_right (by simp <;> omega)]
   simp [hl]
theorem store_box (HE : EnvOk Pg G E) (F : ∀ t, RepV (cx S st.h M w) (st.fr t) (a.tmps.getD t undef)) (H : HInv S B w0 st.h M w) {t : TypeId} {x y : Operand} (ho : o.op = .store t x y)
  {id : Nat} {p : List Nat} (e : opnd none st.fr x = .ptr id p) {v : AV} {L : Ty} (he : st.h.e id = some (.box v L)) (hlk : st.h.lk id = false) {off : Nat} {u : Ty} (hoff : offs L p = some (off, u))
  (hty : E.ty t = some u) (hs : (opnd (E.ty t) st.fr y).solid = true) (hf : fitsT (opnd (E.ty t) st.fr y) u = true) {v' : AV} (hv' : v.set p (opnd (E.ty t) st.fr y) = some v')
  (hr : K .undef (st.h.put id (.box v' L)) = some r) : Does Pg o a w (Post K r S B w0 st.h M w) := by
 have hx := opnd_rep F none (by intros; simp) x
 rw [e] at hx
 have hy := opnd_rep F (E.ty t) (HE.noPair t) y
 simp only [RepV, Rep1] at hx
 obtain ⟨_, q, hv, hx⟩ := hx
 injection hv with hv
 rcases hx with hx | ⟨b, v2, L', o', u', hM, he', ho', rfl⟩
 ·simp only [cx] at hx; rw [he] at hx; cases hx
 simp only [cx] at he' hM
 rw [he] at he'
 injection he' with he'
 injection he' with e1 e2
 subst e1; subst e2
 rw [hoff] at ho'
 injection ho' with ho'
 injection ho' with e1 e2
 subst e1; subst e2
 have hpl := plain_of_offs hoff (HE.ty t u hty)
 obtain ⟨b', cs, el, hM', hheap, hfit, hrep⟩ := ent_box H he hpl
 rw [hM'] at hM
 injection hM with hM
 subst hM
 have hyc := repV_cells _ _ hs hy
 obtain ⟨fz, c1, ec, c2, ecs, hl, hel, hz⟩ := av_set p v L _ v' cs.toList _ off u hv' hoff hfit hf hrep hyc
 have hylen := fits_len _ u _ hf hyc
 have hcs : cs.size = c1.length + ec.length + c2.length := by rw [← Array.length_toList, ecs]; simp; omega
 have hrun := run_store_ok (HE.ty t u hty) (o := off) (v := a.eval y) hheap hylen (by omega) (RepC.one _ _ hyc)
 rw [ecs, take_splice hl (by rw [hel, hylen])] at hrun
 have hB : B ≤ b' := H.own id b' (by rw [he]; simp) (by rw [hM']; exact .inl rfl)
 obtain ⟨H', k⟩ := H.upd (w' := w.setRow b' (c1 ++ (a.eval y).cells.toList ++ c2).toArray) he hlk (e' := .box v' L) (.inl ⟨v, v', L, rfl, rfl⟩)
  (fun b2 _ hb2 => setRow_other w b' b2 _ (fun z => hb2 (by rw [hM', z]; exact .inl rfl))) (by simp) (setRow_below H hB _)
  (fun k => ⟨b', _, Holds.of hpl (el := el) hM' (setRow_heap w b' _ _ el (0, 0) hheap), fz, RepC.tr k _ _ (by simpa using hz)⟩)
 refine Does.skip (w' := w.setRow b' (c1 ++ (a.eval y).cells.toList ++ c2).toArray) ?_ ⟨.undef, _, _, hr, H', k, by simp only [RepV]⟩
 simp only [execOp, ho, hv, Sem.run_bind, hrun, Result.andThen_ok, Sem.run_pure]
theorem setD_rep {Z : Nat → Prop} {w : World} : ∀ (p : List Nat) (t : Ty) (x : t.D) (u : Ty) (y : u.D) (z : t.D) (cs d : List Value) (o : Nat) (u' : Ty), setD t x p u y = some z → offs t p = some (o, u') → RepD Z w t x cs → RepD Z w u y d →
  u = u' ∧ ∃ c1 e c2, cs = c1 ++ e ++ c2 ∧ c1.length = o ∧ e.length = d.length ∧ RepD Z w t z (c1 ++ d ++ c2) := by
 intro p
 induction p with
 | nil =>
  intro t x u y z cs d o u' hz ho hx hy
  unfold setD at hz
  split at hz
  ·rename_i e
   subst e
   injection hz with hz
   subst hz
   simp only [offs] at ho
   injection ho with ho
   injection ho with h1 h2
   subst h1; subst h2
   exact ⟨rfl, [], cs, [], by simp, rfl, by rw [hx.len, hy.len], by simpa using hy⟩
  ·cases hz
 | cons j p ih =>
  intro t x u y z cs d o u' hz ho hx hy
  cases t with
  | st b =>
   simp only [setD] at hz
   split at hz
   ·rename_i q hq
    split at hz
    ·rename_i z' hz'
     simp only [RepD] at hx
     obtain ⟨hn, c1, c, c2, rfl, hl, hd⟩ := comp_rep b j x q cs hq hx
     simp only [offs, hn] at ho
     split at ho
     ·rename_i o' u2 ho'
      injection ho with ho
      injection ho with h1 h2
      subst h1; subst h2
      obtain ⟨e1, d1, e, d2, rfl, hl', hel, hd'⟩ := ih q.1 q.2 u y z' c d o' u2 hz' ho' hd hy
      obtain ⟨_, g1, g, g2, eg, hlg, hgl, hg⟩ := upd_rep b j x q.1 z' z _ _ hz hx hd'
      have hg1 : g1 = c1 := List.append_inj_left (by simpa using eg.symm) (by omega)
      subst hg1
      have : g ++ g2 = (d1 ++ e ++ d2) ++ c2 := by
       have := List.append_cancel_left (as := g1) (by simpa using eg.symm)
       simpa using this
      obtain ⟨hg3, hg4⟩ := List.append_inj this (by simp [hgl, hel])
      subst hg4
      exact ⟨e1, g1 ++ d1, e, d2 ++ g2, by simp, by simp [hl, hl'], hel, by simpa [RepD] using hg⟩
     ·cases ho
    ·cases hz
   ·cases hz
  | _ => simp [setD] at hz
theorem mul_le_of_lt {i i' n : Nat} (h : i < i') : i * n + n ≤ i' * n := by
 have := Nat.mul_le_mul_right n (show i + 1 ≤ i' from h)
 rw [Nat.add_mul] at this
 omega
theorem store_row (HE : EnvOk Pg G E) (F : ∀ t, RepV (cx S st.h M w) (st.fr t) (a.tmps.getD t undef)) (H : HInv S B w0 st.h M w) {t : TypeId} {x y : Operand} (ho : o.op = .store t x y)
  {id : Nat} {p : List Nat} {i : Int} (e : opnd none st.fr x = .eptr id i p) {et : Ty} {xs : List et.D} (he : st.h.e id = some (.row et xs)) (hlk : st.h.lk id = false) {off : Nat} {u : Ty} (hoff : offs et p = some (off, u))
  (hty : E.ty t = some u) (hm : memb id (opnd (E.ty t) st.fr y).owns = false)
  (hr : freeze st.h (opnd (E.ty t) st.fr y) u (fun y h' => match setD et (P.get xs i et.zero) p u y with
      | some z => K .undef (h'.put id (.row et (P.set xs i z)))
      | none => none) = some r) : Does Pg o a w (Post K r S B w0 st.h M w) := by
 have hx := opnd_rep F none (by intros; simp) x
 rw [e] at hx
 have hy := opnd_rep F (E.ty t) (HE.noPair t) y
 simp only [RepV, Rep1] at hx
 obtain ⟨_, q, hv, hx⟩ := hx
 injection hv with hv
 rcases hx with hx | ⟨b, o', n, cap, et', xs', q', u', hM, he', h0, h1, ho', rfl⟩
 ·simp only [cx] at hx; rw [he] at hx; cases hx
 simp only [cx] at he' hM
 rw [he] at he'
 injection he' with he'
 injection he' with e1 e2
 subst e1
 have e2 := eq_of_heq e2
 subst e2
 rw [hoff] at ho'
 injection ho' with ho'
 injection ho' with e1 e2
 subst e1; subst e2
 unfold freeze at hr
 split at hr
 ·rename_i yv hyv
  split at hr
  ·rename_i hul
   simp only at hr
   split at hr
   ·rename_i z hz
    have hsol := toD_solid _ _ _ hyv (by rintro q; rw [q] at hyv; cases u <;> simp [toD] at hyv; exact HE.ty t _ hty)
    have hyc := repV_cells _ _ hsol hy
    obtain ⟨H1, k1⟩ := H.kills hul
    have hyd := freeze_rep H hyv hyc
    have hid : id ∉ (opnd (E.ty t) st.fr y).owns := fun q => by
     have := memb_false hm; exact this q
    have he1 : (st.h.kills (opnd (E.ty t) st.fr y).owns).e id = some (.row et xs) := by rw [kills_e]; simp [hid, he]
    have hlk1 : (st.h.kills (opnd (E.ty t) st.fr y).owns).lk id = false := by rw [kills_lk]; exact hlk
    obtain ⟨A, cap', hM', hle', hrow⟩ := H1.ent id _ he1
    simp only [cx] at hM' hrow
    rw [hM] at hM'
    injection hM' with e1 e2 e3
    subst e1; subst e3
    rcases hrow with hrow | ⟨hc, b', o2, cs, el, hA, hheap, hfit, hel⟩
    ·omega
    injection hA with hA
    injection hA with e1 e3
    subst e1; subst e3
    have hget : xs[i.toNat]? = some (P.get xs i et.zero) := toNat_get (by simp only [P.inb_def, P.len]; simp; omega)
    obtain ⟨d, hd1, hd2⟩ := hel i.toNat _ hget
    obtain ⟨_, c1, ec, c2, rfl, hl, hecl, hzr⟩ := setD_rep p et _ u yv z d _ off u hz hoff hd1 hyd
    -- the row's cells
    have hdl := hd1.len
    have hylen : (a.eval y).cells.toList.length = u.size := hyd.len
    have hcsz : o' + i.toNat * et.size + et.size ≤ cs.size := by
     have := mul_le_of_lt (n := et.size) (show i.toNat < cap by omega)
     omega
    obtain ⟨pre, suf, hpre, hprel⟩ : ∃ pre suf, cs.toList = pre ++ (c1 ++ ec ++ c2) ++ suf ∧ pre.length = o' + i.toNat * et.size := by
     refine ⟨cs.toList.take (o' + i.toNat * et.size), cs.toList.drop (o' + i.toNat * et.size + et.size), ?_, by simp <;> omega⟩
     have hmid : (cs.toList.drop (o' + i.toNat * et.size)).take et.size = c1 ++ ec ++ c2 := by
      apply List.ext_getElem?
      intro j
      rw [List.getElem?_take]
      split
      ·rename_i hj
       rw [List.getElem?_drop]
       have hj' : j < (c1 ++ ec ++ c2).length := by rw [hdl]; exact hj
       have := hd2 j _ (List.getElem?_eq_getElem hj')
       simp only [World.cell?, hheap] at this
       rw [Array.getElem?_toList, List.getElem?_eq_getElem hj']
       simpa using this
      ·rename_i hj
       symm
       apply List.getElem?_eq_none
       rw [hdl]; omega
     rw [← hmid]
     have := List.take_append_drop (o' + i.toNat * et.size) cs.toList
     have h2 := List.take_append_drop et.size (cs.toList.drop (o' + i.toNat * et.size))
     rw [List.drop_drop] at h2
     rw [List.append_assoc, h2, this]
    have hrun := run_store_ok (HE.ty t u hty) (o := o' + i.toNat * et.size + off) (v := a.eval y) hheap hylen (by
     have : c1.length + ec.length + c2.length = et.size := by rw [← hdl]; simp; omega
     omega) (RepC.one _ _ hyc)
    have hsplice : cs.toList.take (o' + i.toNat * et.size + off) ++ (a.eval y).cells.toList ++ cs.toList.drop (o' + i.toNat * et.size + off + u.size) = (pre ++ c1) ++ (a.eval y).cells.toList ++ (c2 ++ suf) := by
     have := take_splice (c1 := pre ++ c1) (e := ec) (c2 := c2 ++ suf) (d := (a.eval y).cells.toList) (o := o' + i.toNat * et.size + off) (n := u.size) (by simp [hprel, hl]) (by rw [hecl, hylen])
     rw [← this, hpre]
     simp
    rw [hsplice] at hrun
    have hB : B ≤ b := H.own id b (by rw [he]; simp) (by rw [hM]; exact row_has hc)
    have hnew := setRow_heap w b cs ((pre ++ c1) ++ (a.eval y).cells.toList ++ (c2 ++ suf)).toArray el (0, 0) hheap
    have hE : Tr (cx S (st.h.kills (opnd (E.ty t) st.fr y).owns) M w) (cx S ((st.h.kills (opnd (E.ty t) st.fr y).owns).put id (.row et (P.set xs i z))) M (w.setRow b ((pre ++ c1) ++ (a.eval y).cells.toList ++ (c2 ++ suf)).toArray)) →
      EntOk (cx S ((st.h.kills (opnd (E.ty t) st.fr y).owns).put id (.row et (P.set xs i z))) M (w.setRow b ((pre ++ c1) ++ (a.eval y).cells.toList ++ (c2 ++ suf)).toArray)) id (.row et (P.set xs i z)) := by
     intro k
     have hle : List.length xs ≤ cap := by omega
     refine ⟨_, cap, (show M id = _ by rw [hM, e2]; simp [P.set]), by simpa [P.set] using hle, .inr ⟨hc, b, o', _, el, rfl, hnew, ?_, fun i' x' hx' => ?_⟩⟩
     ·have : ((pre ++ c1) ++ (a.eval y).cells.toList ++ (c2 ++ suf)).toArray.size = cs.size := by
       rw [← Array.length_toList (xs := cs), hpre]
       simp [← hecl]
      rw [this]; exact hfit
     ·unfold P.set at hx'
      rw [List.getElem?_set] at hx'
      by_cases hii : i.toNat = i'
      ·subst hii
       simp only [if_true] at hx'
       have : i.toNat < xs.length := by omega
       simp [this] at hx'
       subst hx'
       refine ⟨_, hzr.held k.held, fun j v hv => ?_⟩
       simp only [cx, World.cell?, hnew, Option.isSome_none, Bool.false_eq_true, if_false]
       rw [List.getElem?_toArray, ← hprel]
       have : (pre ++ c1) ++ (a.eval y).cells.toList ++ (c2 ++ suf) = pre ++ ((c1 ++ (a.eval y).cells.toList ++ c2) ++ suf) := by simp
       rw [this, List.getElem?_append_right (by omega)]
       simp only [Nat.add_sub_cancel_left]
       rw [List.getElem?_append_left (List.getElem?_eq_some_iff.1 hv).1]
       exact hv
      ·simp only [hii, if_false] at hx'
       obtain ⟨d', g1, g2⟩ := hel i' x' hx'
       refine ⟨d', g1.held k.held, fun j v hv => ?_⟩
       have hjl : j < et.size := by rw [← g1.len]; exact (List.getElem?_eq_some_iff.1 hv).1
       have hold := g2 j v hv
       simp only [World.cell?, hheap, Option.isSome_none, Bool.false_eq_true, if_false] at hold
       simp only [cx, World.cell?, hnew, Option.isSome_none, Bool.false_eq_true, if_false]
       rw [List.getElem?_toArray, cell_splice (e := ec) hecl]
       have hcs : (pre ++ c1) ++ ec ++ (c2 ++ suf) = cs.toList := by rw [hpre]; simp
       rw [hcs, Array.getElem?_toList]
       have hsum : c1.length + ec.length + c2.length = et.size := by rw [← hdl]; simp; omega
       have hpl : (pre ++ c1).length = o' + i.toNat * et.size + off := by simp [hprel, hl]
       rw [hpl]
       rcases Nat.lt_or_gt_of_ne hii with hlt | hgt
       ·have := mul_le_of_lt (n := et.size) hlt
        rw [if_neg (by omega), if_neg (by omega)]
        exact hold
       ·have := mul_le_of_lt (n := et.size) hgt
        rw [if_pos (by omega)]
        exact hold
    obtain ⟨H', k⟩ := H1.upd (w' := w.setRow b ((pre ++ c1) ++ (a.eval y).cells.toList ++ (c2 ++ suf)).toArray) he1 hlk1 (e' := .row et (P.set xs i z)) (.inr ⟨et, xs, _, rfl, rfl, by simp [P.set]⟩)
     (fun b' _ hb' => setRow_other w b b' _ (fun z => hb' (by rw [hM, z]; exact row_has hc))) (by simp) (setRow_below H hB _)
     hE
    refine Does.skip (w' := w.setRow b ((pre ++ c1) ++ (a.eval y).cells.toList ++ (c2 ++ suf)).toArray) ?_ ⟨.undef, _, _, hr, H', k1.trans k, by simp only [RepV]⟩
    simp only [execOp, ho, hv, Sem.run_bind, hrun, Result.andThen_ok, Sem.run_pure]
   ·cases hr
  ·cases hr
 ·cases hr
end Go.PG
end
