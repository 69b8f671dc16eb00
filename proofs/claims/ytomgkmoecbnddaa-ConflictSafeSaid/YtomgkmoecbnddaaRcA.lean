/- RcA: an abstract interpreter over the model's code, made for the kernel: code becomes closures (built once, in continuation style), values have one constructor, numbers are naturals. Definitions alone. -/
import Derived.Test.YtomgkmoecbnddaaMore
set_option linter.unusedVariables false
set_option linter.unusedSimpArgs false
set_option linter.unnecessarySimpa false
namespace Go.Rc
open Go Go.Sym
noncomputable section

inductive Pos where
  | h
  | o (p : Pos)
  | i (p : Pos)
inductive V where
  | n
  | c (t a b d : Nat) (p : Pos) (l r : V)
inductive T where
  | nil
  | node (l : T) (v : V) (r : T)
/-- blocks: 'o': cells (1: closed, 2: open), map (3; e: kind of keys), iterator (4), deferred mark (5); 'lp': a loop over a function -/
inductive AO where
  | z
  | o (t e : Nat) (p : Pos) (l : V)
  | lp (s n : Nat) (tm : T) (ps : V) (d : Pos)
inductive HT where
  | nil
  | node (l : HT) (v : AO) (r : HT)
/-- a list of names: those that were written -/
inductive L where
  | nil
  | cons (p : Pos) (l : L)
structure Hp where
  t : HT
  nx : Pos
  lg : L
/-- marks of the frame, and the loop of which it is a round -/
structure X where
  df : L
  rd : L
abbrev K1 := V → Hp → Bool
abbrev KF := T → Hp → X → Bool
abbrev KS := Nat → T → Hp → X → Bool
abbrev RB := Pos → V → Hp → K1 → Bool
abbrev Cf := RB → Pos → V → Hp → K1 → Bool
abbrev OpF := Cf → RB → T → Hp → K1 → Bool
abbrev RgF := Cf → RB → T → Hp → X → KF → Bool
abbrev Den := Cf → RB → T → Hp → X → KS → Bool
abbrev G := T → (V → Bool) → Bool
abbrev S := V → T → (T → Bool) → Bool

/-! ### eliminators -/
def bi (b x y : Bool) : Bool := @Bool.rec (fun _ => Bool) y x b
def fN (n : Nat) (k : Nat → Bool) : Bool := @Nat.rec (fun _ => Bool) (k 0) (fun m _ => k (Nat.succ m)) n
def onC (v : V) (k : Nat → Nat → Nat → Nat → Pos → V → V → Bool) : Bool := @V.rec (fun _ => Bool) false (fun t a b d p l r _ _ => k t a b d p l r) v
/-- a list: empty, or not -/
def onL (v : V) (e : Bool) (k : V → V → Bool) : Bool := @V.rec (fun _ => Bool) e (fun _ _ _ _ _ l r _ _ => k l r) v
def Pos.num (p : Pos) : Nat := @Pos.rec (fun _ => Nat) 1 (fun _ x => Nat.mul 2 x) (fun _ x => Nat.succ (Nat.mul 2 x)) p
def Pos.succK (p : Pos) : (Pos → Bool) → Bool := @Pos.rec (fun _ => (Pos → Bool) → Bool) (fun k => k (.o .h)) (fun p _ k => k (.i p)) (fun _ ih k => ih fun q => k (.o q)) p
def Pos.eq (p : Pos) : Pos → Bool := @Pos.rec (fun _ => Pos → Bool) (fun q => @Pos.rec (fun _ => Bool) true (fun _ _ => false) (fun _ _ => false) q) (fun _ ih q => @Pos.rec (fun _ => Bool) false (fun q _ => ih q) (fun _ _ => false) q) (fun _ ih q => @Pos.rec (fun _ => Bool) false (fun _ _ => false) (fun q _ => ih q) q) p
def posFK (f : Nat) : Nat → (Pos → Bool) → Bool := @Nat.rec (fun _ => Nat → (Pos → Bool) → Bool) (fun _ k => k .h) (fun _ ih n k => bi (Nat.ble n 1) (k .h) (bi (Nat.beq (Nat.mod n 2) 0) (ih (Nat.div n 2) fun p => k (.o p)) (ih (Nat.div n 2) fun p => k (.i p)))) f
def posK (n : Nat) (k : Pos → Bool) : Bool := posFK (Nat.succ n) (Nat.succ n) k

/-! ### values -/
def vUndef : V := .c 14 0 0 0 .h .n .n
def vBool (b : Bool) : V := .c 0 (@Bool.rec (fun _ => Nat) 0 1 b) 0 0 .h .n .n
def vT : V := .c 0 1 0 0 .h .n .n
def vF : V := .c 0 0 0 0 .h .n .n
def vInt (k a : Nat) : V := .c 1 a k 0 .h .n .n
def vPtr (p : Pos) (o : Nat) : V := .c 2 o 0 0 p .n .n
def vNil (w : Nat) : V := .c 3 w 0 0 .h .n .n
def vSl (p : Pos) (o len cap1 : Nat) : V := .c 4 o len cap1 p .n .n
def vMap (p : Pos) : V := .c 5 0 0 0 p .n .n
def vStr (a len : Nat) : V := .c 6 a len 0 .h .n .n
def vFn (g : Pos) (fs cs : V) : V := .c 7 0 0 0 g fs cs
def vYl (p : Pos) : V := .c 8 0 0 0 p .n .n
def vIfc (t : Nat) (v : V) : V := .c 11 t 0 0 .h v .n
def vAgg (l : V) : V := .c 12 0 0 0 .h l .n
def vCons (v l : V) : V := .c 13 0 0 0 .h v l
def vTup (l : V) : V := .c 14 0 0 0 .h l .n
def onBool (v : V) (t f : Bool) : Bool := onC v fun g a _ _ _ _ _ => bi (Nat.beq g 0) (bi (Nat.beq a 1) t f) false
def onInt (k : Nat) (v : V) (c : Nat → Bool) : Bool := onC v fun g a b _ _ _ _ => bi (Nat.beq g 1) (bi (Nat.beq b k) (c a) false) false
def onNat (v : V) (c : Nat → Bool) : Bool := onC v fun g a b _ _ _ _ => bi (Nat.beq g 1) (bi (Nat.blt a 9223372036854775808) (bi (Nat.ble 3 b) (c a) false) false) false
def onPtr (v : V) (c : Pos → Nat → Bool) : Bool := onC v fun g a _ _ p _ _ => bi (Nat.beq g 2) (c p a) false
def onSl (v : V) (c : Pos → Nat → Nat → Nat → Bool) : Bool := onC v fun g a b d p _ _ => bi (Nat.beq g 4) (c p a b d) false
def isNilV (w : Nat) (v : V) (t f : Bool) : Bool := onC v fun g a _ _ _ _ _ => bi (Nat.beq g 3) (bi (Nat.beq a w) t f) f
/-- is the value one cell's -/
def oneV (v : V) (c : Bool) : Bool := onC v fun g _ _ _ _ _ _ => bi (Nat.beq g 12) false (bi (Nat.beq g 14) false c)
/-- the cells of a value, as a list -/
def cellsK (v : V) (k : V → Bool) : Bool := onC v fun g _ _ _ _ l _ => bi (Nat.beq g 12) (k l) (k (vCons v .n))

/-! ### frames -/
def gH : G := fun t k => @T.rec (fun _ => Bool) false (fun _ v _ _ _ => k v) t
def gO (g : G) : G := fun t k => @T.rec (fun _ => Bool) false (fun l _ _ _ _ => g l k) t
def gI (g : G) : G := fun t k => @T.rec (fun _ => Bool) false (fun _ _ r _ _ => g r k) t
def gC (v : V) : G := fun _ k => k v
def sH : S := fun x t k => @T.rec (fun _ => Bool) (k (.node .nil x .nil)) (fun l _ r _ _ => k (.node l x r)) t
def sO (s : S) : S := fun x t k => @T.rec (fun _ => Bool) (s x .nil fun l' => k (.node l' .n .nil)) (fun l v r _ _ => s x l fun l' => k (.node l' v r)) t
def sI (s : S) : S := fun x t k => @T.rec (fun _ => Bool) (s x .nil fun r' => k (.node .nil .n r')) (fun l v r _ _ => s x r fun r' => k (.node l v r')) t
def gPosK (p : Pos) : (G → Bool) → Bool := @Pos.rec (fun _ => (G → Bool) → Bool) (fun k => k gH) (fun _ ih k => ih fun g => k (gO g)) (fun _ ih k => ih fun g => k (gI g)) p
def sPosK (p : Pos) : (S → Bool) → Bool := @Pos.rec (fun _ => (S → Bool) → Bool) (fun k => k sH) (fun _ ih k => ih fun g => k (sO g)) (fun _ ih k => ih fun g => k (sI g)) p
/-- a slot by its name at run time -/
def T.setK (x : V) (p : Pos) : T → (T → Bool) → Bool := @Pos.rec (fun _ => T → (T → Bool) → Bool) (sH x) (fun _ ih => sO (fun _ => ih) x) (fun _ ih => sI (fun _ => ih) x) p

/-! ### the heap -/
def HT.getK (p : Pos) : HT → (AO → Bool) → Bool := @Pos.rec (fun _ => HT → (AO → Bool) → Bool) (fun t k => @HT.rec (fun _ => Bool) false (fun _ v _ _ _ => k v) t) (fun _ ih t k => @HT.rec (fun _ => Bool) false (fun l _ _ _ _ => ih l k) t) (fun _ ih t k => @HT.rec (fun _ => Bool) false (fun _ _ r _ _ => ih r k) t) p
def HT.setK (x : AO) (p : Pos) : HT → (HT → Bool) → Bool := @Pos.rec (fun _ => HT → (HT → Bool) → Bool)
  (fun t k => @HT.rec (fun _ => Bool) (k (.node .nil x .nil)) (fun l _ r _ _ => k (.node l x r)) t)
  (fun _ ih t k => @HT.rec (fun _ => Bool) (ih .nil fun l' => k (.node l' .z .nil)) (fun l v r _ _ => ih l fun l' => k (.node l' v r)) t)
  (fun _ ih t k => @HT.rec (fun _ => Bool) (ih .nil fun r' => k (.node .nil .z r')) (fun l v r _ _ => ih r fun r' => k (.node l v r')) t) p
def onO (a : AO) (k : Nat → Nat → Pos → V → Bool) : Bool := @AO.rec (fun _ => Bool) false (fun t e p l => k t e p l) (fun _ _ _ _ _ => false) a
def onLp (a : AO) (k : Nat → Nat → T → V → Pos → Bool) : Bool := @AO.rec (fun _ => Bool) false (fun _ _ _ _ => false) (fun s n tm ps d => k s n tm ps d) a
def hget (h : Hp) (p : Pos) (k : AO → Bool) : Bool := HT.getK p h.t k
/-- cells of block p: type, open or not, the list -/
def hcells (h : Hp) (p : Pos) (k : Nat → Nat → V → Bool) : Bool := hget h p fun a => onO a fun t e _ l => bi (Nat.beq t 1) (k t e l) (bi (Nat.beq t 2) (k t e l) false)
def hnew (h : Hp) (o : AO) (k : Pos → Hp → Bool) : Bool := @Hp.rec (fun _ => Bool) (fun t nx lg => nx.succK fun nx' => HT.setK o nx t fun t' => k nx ⟨t', nx', lg⟩) h
def hput (h : Hp) (p : Pos) (o : AO) (k : Hp → Bool) : Bool := @Hp.rec (fun _ => Bool) (fun t nx lg => HT.setK o p t fun t' => k ⟨t', nx, .cons p lg⟩) h

/-! ### lists of cells -/
def nthK (l : V) : Nat → (V → Bool) → Bool := @V.rec (fun _ => Nat → (V → Bool) → Bool) (fun _ _ => false) (fun _ _ _ _ _ v _ _ ih n k => @Nat.rec (fun _ => Bool) (k v) (fun m _ => ih m k) n) l
def subK (l : V) : Nat → Nat → (V → Bool) → Bool := @V.rec (fun _ => Nat → Nat → (V → Bool) → Bool) (fun o m k => @Nat.rec (fun _ => Bool) (@Nat.rec (fun _ => Bool) (k .n) (fun _ _ => false) m) (fun _ _ => false) o)
  (fun _ _ _ _ _ v _ _ ih o m k => @Nat.rec (fun _ => Bool) (@Nat.rec (fun _ => Bool) (k .n) (fun m _ => ih 0 m fun r => k (vCons v r)) m) (fun o _ => ih o m k) o) l
def putK (l : V) : Nat → V → (V → Bool) → Bool := @V.rec (fun _ => Nat → V → (V → Bool) → Bool) (fun o r k => @Nat.rec (fun _ => Bool) (onL r (k .n) fun _ _ => false) (fun _ _ => false) o)
  (fun _ _ _ _ _ u l _ ih o r k => @Nat.rec (fun _ => Bool) (onL r (k (vCons u l)) fun v r => ih 0 r fun q => k (vCons v q)) (fun o _ => ih o r fun q => k (vCons u q)) o) l
def appK (l : V) : V → (V → Bool) → Bool := @V.rec (fun _ => V → (V → Bool) → Bool) (fun m k => k m) (fun _ _ _ _ _ v _ _ ih m k => ih m fun q => k (vCons v q)) l
def lenK (l : V) : Nat → (Nat → Bool) → Bool := @V.rec (fun _ => Nat → (Nat → Bool) → Bool) (fun n k => k n) (fun _ _ _ _ _ _ _ _ ih n k => fN n fun m => ih (Nat.succ m) k) l
def allOne (l : V) (k : Bool) : Bool := @V.rec (fun _ => Bool) k (fun _ _ _ _ _ v _ _ ih => oneV v ih) l
def repK (n : Nat) (z : V) : (V → Bool) → Bool := @Nat.rec (fun _ => (V → Bool) → Bool) (fun k => k .n) (fun _ ih k => ih fun q => appK z q k) n
/-- bytes, the first lowest -/
def bytesK (l : V) : (Nat → Nat → Bool) → Bool := @V.rec (fun _ => (Nat → Nat → Bool) → Bool) (fun k => k 0 0) (fun _ _ _ _ _ v _ _ ih k => onInt 4 v fun b => ih fun a n => fN (Nat.add b (Nat.mul 256 a)) fun a' => fN (Nat.succ n) fun n' => k a' n') l
def ofBytesK (n : Nat) : Nat → (V → Bool) → Bool := @Nat.rec (fun _ => Nat → (V → Bool) → Bool) (fun _ k => k .n) (fun _ ih a k => fN (Nat.mod a 256) fun b => fN (Nat.div a 256) fun a' => ih a' fun q => k (vCons (vInt 4 b) q)) n
def evsK (fr : T) (l : List G) : (V → Bool) → Bool := @List.rec G (fun _ => (V → Bool) → Bool) (fun k => k .n) (fun g _ ih k => g fr fun v => ih fun q => k (vCons v q)) l

/-! ### operations -/
def opMv (g : G) : OpF := fun _ _ fr h k => g fr fun v => k v h
def opPick (c a b : G) : OpF := fun _ _ fr h k => c fr fun v => onBool v (a fr fun u => k u h) (b fr fun u => k u h)
def opAlloc (z : V) (e : Nat) : OpF := fun _ _ _ h k => hnew h (.o 1 e .h z) fun p h' => k (vPtr p 0) h'
def opBox (e : Nat) (g : G) : OpF := fun _ _ fr h k => g fr fun v => cellsK v fun l => hnew h (.o 1 e .h l) fun p h' => k (vPtr p 0) h'
/-- parts: place, size, operand -/
def bNil : T → V → (V → Bool) → Bool := fun _ z k => k z
def bCons (o m : Nat) (g : G) (r : T → V → (V → Bool) → Bool) : T → V → (V → Bool) → Bool := fun fr z k => g fr fun v => cellsK v fun l => lenK l 0 fun m' => bi (Nat.beq m' m) (putK z o l fun z' => r fr z' k) false
def opBuild (z : V) (b : T → V → (V → Bool) → Bool) : OpF := fun _ _ fr h k => b fr z fun l => k (vAgg l) h
def qNil : T → (V → Bool) → Bool := fun _ k => k .n
def qCons (m : Nat) (g : G) (r : T → (V → Bool) → Bool) : T → (V → Bool) → Bool := fun fr k => g fr fun v => cellsK v fun l => lenK l 0 fun m' => bi (Nat.beq m' m) (r fr fun q => appK l q k) false
def opBsl (e len : Nat) (b : T → (V → Bool) → Bool) : OpF := fun _ _ fr h k => b fr fun l => hnew h (.o 1 e .h l) fun p h' => k (vSl p 0 len (Nat.succ len)) h'
def opLd1 (g : G) : OpF := fun _ _ fr h k => g fr fun v => onPtr v fun p o => hcells h p fun _ _ l => nthK l o fun v => k v h
def opLdN (m : Nat) (g : G) : OpF := fun _ _ fr h k => g fr fun v => onPtr v fun p o => hcells h p fun _ _ l => subK l o m fun r => k (vAgg r) h
def opSt (m : Nat) (x y : G) : OpF := fun _ _ fr h k => x fr fun u => onPtr u fun p o => y fr fun v => cellsK v fun r => allOne r (lenK r 0 fun m' => bi (Nat.beq m' m) (hcells h p fun t e l => putK l o r fun l' => hput h p (.o t e .h l') fun h' => k vUndef h') false)
def opNck (g : G) : OpF := fun _ _ fr h k => g fr fun v => onC v fun t _ _ _ _ _ _ => bi (Nat.beq t 2) (k v h) (bi (Nat.beq t 11) (k v h) (bi (Nat.beq t 7) (k v h) false))
def opNot (g : G) : OpF := fun _ _ fr h k => g fr fun v => onBool v (k vF h) (k vT h)
/-- two numbers of kind q -/
def bin2 (q : Nat) (x y : G) (f : Nat → Nat → (V → Bool) → Bool) : OpF := fun _ _ fr h k => x fr fun u => onInt q u fun a => y fr fun v => onInt q v fun b => f a b fun r => k r h
def nAdd (q m : Nat) (a b : Nat) (k : V → Bool) : Bool := fN (Nat.mod (Nat.add a b) m) fun c => k (vInt q c)
def nSub (q m : Nat) (a b : Nat) (k : V → Bool) : Bool := fN (Nat.mod (Nat.add a (Nat.sub m b)) m) fun c => k (vInt q c)
def nMul (q m : Nat) (a b : Nat) (k : V → Bool) : Bool := fN (Nat.mod (Nat.mul a b) m) fun c => k (vInt q c)
/-- hf: numbers from hf on are negative (unsigned kinds: hf = m) -/
def nQuo (q m hf : Nat) (a b : Nat) (k : V → Bool) : Bool := bi (Nat.beq b 0) false (bi (Nat.blt b hf) (bi (Nat.blt a hf) (fN (Nat.div a b) fun c => k (vInt q c)) (fN (Nat.mod (Nat.sub m (Nat.div (Nat.sub m a) b)) m) fun c => k (vInt q c))) false)
def nRem (q m hf : Nat) (a b : Nat) (k : V → Bool) : Bool := bi (Nat.beq b 0) false (bi (Nat.blt b hf) (bi (Nat.blt a hf) (fN (Nat.mod a b) fun c => k (vInt q c)) (fN (Nat.mod (Nat.sub m (Nat.mod (Nat.sub m a) b)) m) fun c => k (vInt q c))) false)
def nAnd (q : Nat) (a b : Nat) (k : V → Bool) : Bool := fN (Nat.land a b) fun c => k (vInt q c)
/-- an int known by its rest (tag 16), masked by a power of two less one -/
def opAnd (q : Nat) (x y : G) : OpF := fun cf rb fr h k => x fr fun u => onC u fun t m r _ _ _ _ => bi (Nat.beq t 16)
  (y fr fun v => onInt 3 v fun b => bi (Nat.beq q 3) (bi (Nat.blt b 4294967296) (bi (Nat.beq (Nat.pow 2 (Nat.log2 (Nat.succ b))) (Nat.succ b)) (bi (Nat.beq (Nat.mod m (Nat.succ b)) 0) (fN (Nat.mod r (Nat.succ b)) fun c => k (vInt 3 c) h) false) false) false) false)
  (bin2 q x y (nAnd q) cf rb fr h k)
/-- a natural of kind i64 or u8 (tags 19, 20), below B, known by its rest r modulo m -/
def onRes (q : Nat) (u : V) (yes : Nat → Nat → Nat → Bool) (no : Bool) : Bool := onC u fun t m r B _ _ _ => bi (Nat.beq t (Nat.add 16 q)) (bi (Nat.ble 3 q) (bi (Nat.ble q 4) (yes m r B) false) false) no
def vNum (q m r B : Nat) : V := .c (Nat.add 16 q) m r B .h .n .n
def opRem (q m hf : Nat) (x y : G) : OpF := fun cf rb fr h k => x fr fun u => onRes q u (fun m r _ => y fr fun v => onInt q v fun b => bi (Nat.beq b 0) false (bi (Nat.blt b hf) (bi (Nat.beq (Nat.mod m b) 0) (fN (Nat.mod r b) fun c => k (vInt q c) h) false) false))
  (bin2 q x y (nRem q m hf) cf rb fr h k)
/-- a number and one that is known by its rest -/
def opAdd (q m : Nat) (x y : G) : OpF := fun cf rb fr h k => y fr fun v => onRes q v (fun m r B => x fr fun u => onInt q u fun b => bi (Nat.beq q 3) (bi (Nat.ble (Nat.add B b) 4294967296) (bi (Nat.beq m 0) false (fN (Nat.mod (Nat.add r b) m) fun r' => fN (Nat.add B b) fun B' => k (.c 19 m r' B' .h .n .n) h)) false) false)
  (bin2 q x y (nAdd q m) cf rb fr h k)
def nOr (q : Nat) (a b : Nat) (k : V → Bool) : Bool := fN (Nat.lor a b) fun c => k (vInt q c)
def nXor (q : Nat) (a b : Nat) (k : V → Bool) : Bool := fN (Nat.xor a b) fun c => k (vInt q c)
def nEql (a b : Nat) (k : V → Bool) : Bool := bi (Nat.beq a b) (k vT) (k vF)
def nNeq (a b : Nat) (k : V → Bool) : Bool := bi (Nat.beq a b) (k vF) (k vT)
/-- sg: what is added ahead of a comparison -/
def nLss (m sg : Nat) (a b : Nat) (k : V → Bool) : Bool := bi (Nat.blt (Nat.mod (Nat.add a sg) m) (Nat.mod (Nat.add b sg) m)) (k vT) (k vF)
def nLeq (m sg : Nat) (a b : Nat) (k : V → Bool) : Bool := bi (Nat.ble (Nat.mod (Nat.add a sg) m) (Nat.mod (Nat.add b sg) m)) (k vT) (k vF)
def opShl (q m bits : Nat) (x y : G) : OpF := fun _ _ fr h k => x fr fun u => onInt q u fun a => y fr fun v => onNat v fun b => fN (Nat.mod (Nat.mul a (Nat.pow 2 (@Bool.rec (fun _ => Nat) b bits (Nat.ble bits b)))) m) fun c => k (vInt q c) h
def opShr (q hf bits : Nat) (x y : G) : OpF := fun _ _ fr h k => x fr fun u => onInt q u fun a => bi (Nat.blt a hf) (y fr fun v => onNat v fun b => fN (Nat.div a (Nat.pow 2 (@Bool.rec (fun _ => Nat) b bits (Nat.ble bits b)))) fun c => k (vInt q c) h) false
/-- a number known by its rest, shifted by less than eight places -/
def opShrR (q hf bits : Nat) (x y : G) : OpF := fun cf rb fr h k => x fr fun u => onRes q u (fun m r B => y fr fun v => onNat v fun s => bi (Nat.blt s 8) (fN (Nat.pow 2 s) fun d => bi (Nat.beq (Nat.mod m d) 0) (fN (Nat.div m d) fun m' => fN (Nat.div r d) fun r' => k (.c (Nat.add 16 q) m' r' B .h .n .n) h) false) false)
  (opShr q hf bits x y cf rb fr h k)
/-- a number known by its rest, masked -/
def opAnd2 (q : Nat) (x y : G) : OpF := fun cf rb fr h k => x fr fun u => onRes q u (fun m r _ => y fr fun v => onInt q v fun b => bi (Nat.blt b 256) (bi (Nat.beq (Nat.pow 2 (Nat.log2 (Nat.succ b))) (Nat.succ b)) (bi (Nat.beq (Nat.mod m (Nat.succ b)) 0) (fN (Nat.mod r (Nat.succ b)) fun c => k (vInt q c) h) false) false) false)
  (opAnd q x y cf rb fr h k)
def str2 (x y : G) (f : Nat → Nat → Nat → Nat → (V → Bool) → Bool) : OpF := fun _ _ fr h k => x fr fun u => onC u fun t a n _ _ _ _ => bi (Nat.beq t 6) (y fr fun v => onC v fun t b m _ _ _ _ => bi (Nat.beq t 6) (f a n b m fun r => k r h) false) false
def sAdd (a n b m : Nat) (k : V → Bool) : Bool := bi (Nat.blt (Nat.add n m) 9223372036854775808) (fN (Nat.add a (Nat.mul b (Nat.pow 256 n))) fun c => fN (Nat.add n m) fun l => k (vStr c l)) false
def sEql (a n b m : Nat) (k : V → Bool) : Bool := bi (Nat.beq a b) (bi (Nat.beq n m) (k vT) (k vF)) (k vF)
def sNeq (a n b m : Nat) (k : V → Bool) : Bool := bi (Nat.beq a b) (bi (Nat.beq n m) (k vF) (k vT)) (k vT)
/-- is the first string of n bytes below the second of m bytes -/
def sLt (n : Nat) : Nat → Nat → Nat → Bool → Bool → Bool := @Nat.rec (fun _ => Nat → Nat → Nat → Bool → Bool → Bool) (fun _ _ m t f => bi (Nat.beq m 0) f t) (fun _ ih a b m t f => @Nat.rec (fun _ => Bool) f (fun m _ => bi (Nat.blt (Nat.mod a 256) (Nat.mod b 256)) t (bi (Nat.beq (Nat.mod a 256) (Nat.mod b 256)) (fN (Nat.div a 256) fun a' => fN (Nat.div b 256) fun b' => ih a' b' m t f) f)) m) n
def sLss (a n b m : Nat) (k : V → Bool) : Bool := sLt n a b m (k vT) (k vF)
def sGtr (a n b m : Nat) (k : V → Bool) : Bool := sLt m b a n (k vT) (k vF)
def opEqB (t f : V) (x y : G) : OpF := fun _ _ fr h k => x fr fun u => onC u fun g a _ _ _ _ _ => bi (Nat.beq g 0) (y fr fun v => onC v fun g b _ _ _ _ _ => bi (Nat.beq g 0) (bi (Nat.beq a b) (k t h) (k f h)) false) false
/-- compared with nil (number w); tg: what else it may be -/
def onTg (tg : Nat) (v : V) (c : Bool) : Bool := onC v fun g _ _ _ _ _ _ => bi (Nat.beq g tg) c false
def opEqN (w tg : Nat) (t f : V) (x y : G) : OpF := fun _ _ fr h k => x fr fun u => y fr fun v => isNilV w u (isNilV w v (k t h) (onTg tg v (k f h))) (isNilV w v (onTg tg u (k f h)) false)
/-- two pointers -/
def opEqP (t f : V) (x y : G) : OpF := fun _ _ fr h k => x fr fun u => y fr fun v => isNilV 0 u (isNilV 0 v (k t h) (onTg 2 v (k f h))) (isNilV 0 v (onTg 2 u (k f h)) (onPtr u fun p a => onPtr v fun p' b => bi (p.eq p') (bi (Nat.beq a b) (k t h) (k f h)) (hcells h p fun _ _ _ => hcells h p' fun _ _ _ => k f h)))
def opCv (q m : Nat) (q0 m0 hf0 : Nat) (g : G) : OpF := fun _ _ fr h k => g fr fun v => onInt q0 v fun a => bi (Nat.blt a hf0) (fN (Nat.mod a m) fun c => k (vInt q c) h) (fN (Nat.mod (Nat.sub (Nat.mul m0 m) (Nat.sub m0 a)) m) fun c => k (vInt q c) h)
/-- a byte that is known by its rest, as an int -/
def opCvR (q m : Nat) (q0 m0 hf0 : Nat) (g : G) : OpF := fun cf rb fr h k => g fr fun v => onC v fun t m' r B _ _ _ => bi (Nat.beq t 20) (bi (Nat.beq q0 4) (bi (Nat.beq q 3) (k (.c 19 m' r B .h .n .n) h) false) false) (opCv q m q0 m0 hf0 g cf rb fr h k)
def opB2s (g : G) : OpF := fun _ _ fr h k => g fr fun v => isNilV 1 v (k (vStr 0 0) h) (onSl v fun p o len _ => hcells h p fun _ _ l => subK l o len fun r => bytesK r fun a n => k (vStr a n) h)
def opSv (g : G) : OpF := fun _ _ fr h k => g fr fun v => onC v fun t _ _ _ _ _ _ => bi (Nat.beq t 6) (k v h) false
def opMki (t : Nat) (g : G) : OpF := fun _ _ fr h k => g fr fun v => k (vIfc t v) h
def opMkf (g : Pos) (fs cs : List G) : OpF := fun _ _ fr h k => evsK fr fs fun a => evsK fr cs fun b => k (vFn g a b) h
def opMkm (e : Nat) : OpF := fun _ _ _ h k => hnew h (.o 3 e .h .n) fun p h' => k (vMap p) h'
def opMks (e by_ : Nat) (z : V) (l c : G) : OpF := fun _ _ fr h k => l fr fun u => onNat u fun l => c fr fun v => onNat v fun c => bi (Nat.ble l c) (bi (Nat.ble c 16777216) (bi (Nat.ble (Nat.mul by_ c) 16777216) (repK c z fun cs => hnew h (.o 1 e .h cs) fun p h' => fN (Nat.succ c) fun c' => k (vSl p 0 l c') h') false) false) false
def oG (x : Option G) (d : Nat) (fr : T) (k : Nat → Bool) : Bool := @Option.rec G (fun _ => Bool) (k d) (fun g => g fr fun v => onNat v k) x
def slFin (s p_ : Nat) (p : Pos) (l hh m : Nat) (h : Hp) (k : K1) : Bool := bi (Nat.ble l hh) (bi (Nat.ble hh m) (fN (@Bool.rec (fun _ => Nat) (Nat.add p_ (Nat.mul l s)) p_ (Nat.beq m l)) fun o' => fN (Nat.sub hh l) fun n' => fN (Nat.succ (Nat.sub m l)) fun m' => k (vSl p o' n' m') h) false) false
def opSlS (s : Nat) (g : G) (lo hi mx : Option G) : OpF := fun _ _ fr h k => g fr fun v => isNilV 1 v (oG lo 0 fr fun l => oG hi 0 fr fun hh => oG mx 0 fr fun m => bi (Nat.beq l 0) (bi (Nat.beq hh 0) (bi (Nat.beq m 0) (k v h) false) false) false)
  (onSl v fun p o len cap1 => oG lo 0 fr fun l => oG hi len fr fun hh => @Nat.rec (fun _ => Bool)
    (@Option.rec G (fun _ => Bool) (bi (Nat.ble l hh) (bi (Nat.ble hh len) (bi (Nat.blt l len) (fN (Nat.add o (Nat.mul l s)) fun o' => fN (Nat.sub hh l) fun n' => k (vSl p o' n' 0) h) (bi (Nat.beq l 0) (k (vSl p o 0 0) h) false)) false) false) (fun g => g fr fun u => onNat u fun m => bi (Nat.ble m len) (slFin s o p l hh m h k) false) mx)
    (fun cap _ => oG mx cap fr fun m => bi (Nat.ble m cap) (slFin s o p l hh m h k) false) cap1)
def opSlA (n s : Nat) (g : G) (lo hi mx : Option G) : OpF := fun _ _ fr h k => g fr fun v => onPtr v fun p o => oG lo 0 fr fun l => oG hi n fr fun hh => oG mx n fr fun m => bi (Nat.ble m n) (slFin s o p l hh m h k) false
def opSlT (g : G) (lo hi : Option G) : OpF := fun _ _ fr h k => g fr fun v => onC v fun t a n _ _ _ _ => bi (Nat.beq t 6) (oG lo 0 fr fun l => oG hi n fr fun hh => bi (Nat.ble l hh) (bi (Nat.ble hh n) (fN (Nat.mod (Nat.div a (Nat.pow 256 l)) (Nat.pow 256 (Nat.sub hh l))) fun a' => fN (Nat.sub hh l) fun n' => k (vStr a' n') h) false) false) false
def opFa (o : Nat) (g : G) : OpF := fun _ _ fr h k => g fr fun v => onPtr v fun p a => fN (Nat.add a o) fun a' => k (vPtr p a') h
def onAgg (v : V) (k : V → Bool) : Bool := onC v fun t _ _ _ _ l _ => bi (Nat.beq t 12) (k l) false
def onTup (v : V) (k : V → Bool) : Bool := onC v fun t _ _ _ _ l _ => bi (Nat.beq t 14) (k l) false
def opFd1 (o : Nat) (g : G) : OpF := fun _ _ fr h k => g fr fun v => onAgg v fun l => nthK l o fun u => k u h
def opFdN (o m : Nat) (g : G) : OpF := fun _ _ fr h k => g fr fun v => onAgg v fun l => subK l o m fun r => k (vAgg r) h
def opIxs (s : Nat) (x y : G) : OpF := fun _ _ fr h k => x fr fun u => onSl u fun p o len _ => y fr fun v => onNat v fun i => bi (Nat.blt i len) (fN (Nat.add o (Nat.mul i s)) fun a => k (vPtr p a) h) false
def opIxa (len s : Nat) (x y : G) : OpF := fun _ _ fr h k => x fr fun u => onPtr u fun p o => y fr fun v => onNat v fun i => bi (Nat.blt i len) (fN (Nat.add o (Nat.mul i s)) fun a => k (vPtr p a) h) false
def opIxv1 (len s : Nat) (x y : G) : OpF := fun _ _ fr h k => x fr fun u => onAgg u fun l => y fr fun v => onNat v fun i => bi (Nat.blt i len) (nthK l (Nat.mul i s) fun r => k r h) false
def opIxvN (len s : Nat) (x y : G) : OpF := fun _ _ fr h k => x fr fun u => onAgg u fun l => y fr fun v => onNat v fun i => bi (Nat.blt i len) (subK l (Nat.mul i s) s fun r => k (vAgg r) h) false
def opIxt (x y : G) : OpF := fun _ _ fr h k => x fr fun u => onC u fun t a n _ _ _ _ => bi (Nat.beq t 6) (y fr fun v => onNat v fun i => bi (Nat.blt i n) (fN (Nat.mod (Nat.div a (Nat.pow 256 i)) 256) fun c => k (vInt 4 c) h) false) false
/-- a key: kind e (kinds of numbers 0..7, strings 8), and its two numbers -/
def onKey (e : Nat) (v : V) (k : Nat → Nat → Bool) : Bool := onC v fun t a b _ _ _ _ => bi (Nat.beq t 1) (bi (Nat.beq b e) (k a b) false) (bi (Nat.beq t 6) (bi (Nat.beq e 8) (k a b) false) false)
/-- entries: key and value -/
def vEnt (a b : Nat) (kv v r : V) : V := .c 13 a b 0 .h (.c 15 0 0 0 .h kv v) r
def lookK (l : V) : Nat → Nat → (V → Bool) → Bool → Bool := @V.rec (fun _ => Nat → Nat → (V → Bool) → Bool → Bool) (fun _ _ _ f => f) (fun _ a b _ _ kv _ _ ih x y k f => bi (Nat.beq a x) (bi (Nat.beq b y) (onC kv fun _ _ _ _ _ _ v => k v) (ih x y k f)) (ih x y k f)) l
def upK (l : V) : Nat → Nat → V → V → (V → Bool) → Bool := @V.rec (fun _ => Nat → Nat → V → V → (V → Bool) → Bool) (fun x y kv v k => k (vEnt x y kv v .n)) (fun _ a b _ _ e r _ ih x y kv v k => bi (Nat.beq a x) (bi (Nat.beq b y) (k (vEnt a b kv v r)) (ih x y kv v fun q => k (.c 13 a b 0 .h e q))) (ih x y kv v fun q => k (.c 13 a b 0 .h e q))) l
def delK (l : V) : Nat → Nat → (V → Bool) → Bool := @V.rec (fun _ => Nat → Nat → (V → Bool) → Bool) (fun _ _ k => k .n) (fun _ a b _ _ e r _ ih x y k => bi (Nat.beq a x) (bi (Nat.beq b y) (k r) (ih x y fun q => k (.c 13 a b 0 .h e q))) (ih x y fun q => k (.c 13 a b 0 .h e q))) l
def onMap (ke : Nat) (v : V) (h : Hp) (k : Pos → V → Bool) : Bool := onC v fun t _ _ _ p _ _ => bi (Nat.beq t 5) (hget h p fun a => onO a fun t e _ l => bi (Nat.beq t 3) (bi (Nat.beq e ke) (k p l) false) false) false
def opLk (ke : Nat) (z : V) (x y : G) : OpF := fun _ _ fr h k => x fr fun u => onMap ke u h fun _ l => y fr fun v => onKey ke v fun a b => lookK l a b (fun r => k r h) (k z h)
def opLkOk (ke : Nat) (z : V) (x y : G) : OpF := fun _ _ fr h k => x fr fun u => onMap ke u h fun _ l => y fr fun v => onKey ke v fun a b => lookK l a b (fun r => k (vTup (vCons r (vCons vT .n))) h) (k (vTup (vCons z (vCons vF .n))) h)
def opMup (ke : Nat) (x y z : G) : OpF := fun _ _ fr h k => x fr fun u => onMap ke u h fun p l => y fr fun kv => onKey ke kv fun a b => z fr fun v => upK l a b kv v fun l' => hput h p (.o 3 ke .h l') fun h' => k vUndef h'
def opDel (ke : Nat) (x y : G) : OpF := fun _ _ fr h k => x fr fun u => onMap ke u h fun p l => y fr fun kv => onKey ke kv fun a b => delK l a b fun l' => hput h p (.o 3 ke .h l') fun h' => k vUndef h'
/-- an iterator: block 4 over map p; the list: those entries that have come, the last in front -/
def opRng (ke : Nat) (x : G) : OpF := fun _ _ fr h k => x fr fun u => onMap ke u h fun p l => hnew h (.o 4 ke p .n) fun q h' => hput h' p (.o 3 ke (.o q) l) fun h2 => k (vPtr q 0) h2
def hasK (l : V) (x y : Nat) (t f : Bool) : Bool := lookK l x y (fun _ => t) f
/-- every entry that has not come yet -/
def nextAll (l vis : V) (none : Bool) (c : Nat → Nat → V → V → Bool) : Bool := @V.rec (fun _ => Bool → Bool) (fun z => z) (fun _ a b _ _ e _ _ ih z => hasK vis a b (ih z) (onC e fun _ _ _ _ _ kv v => bi (c a b kv v) (ih true) false)) l none
def onIt (v : V) (h : Hp) (k : Pos → Nat → Pos → V → Bool) : Bool := onPtr v fun p o => bi (Nat.beq o 0) (hget h p fun a => onO a fun t e m l => bi (Nat.beq t 4) (k p e m l) false) false
/-- the map bears the mark of this iterator: no entry came or went since -/
def onMk (mk p : Pos) (k : Bool) : Bool := @Pos.rec (fun _ => Bool) false (fun q _ => bi (q.eq p) k false) (fun _ _ => false) mk
def opNx (x : G) : OpF := fun _ _ fr h k => x fr fun u => onIt u h fun p e m vis => hget h m fun a => onO a fun t e2 mk l => bi (Nat.beq t 3) (bi (Nat.beq e2 e) (onMk mk p (nextAll l vis (k (vTup (vCons vF .n)) h) fun a b kv v => hput h p (.o 4 e m (vEnt a b kv v vis)) fun h' => k (vTup (vCons vT (vCons kv (vCons v .n)))) h')) false) false
def opEn (x : G) : OpF := fun _ _ fr h k => x fr fun u => onIt u h fun p _ m vis => onL vis false fun e _ => onC e fun _ _ _ _ _ kv v => hget h m fun a => onO a fun t _ mk _ => bi (Nat.beq t 3) (onMk mk p (k (vTup (vCons kv (vCons v .n))) h)) false
/-- a name without a block -/
def hname (h : Hp) (k : Pos → Hp → Bool) : Bool := @Hp.rec (fun _ => Bool) (fun t nx lg => nx.succK fun nx' => k nx ⟨t, nx', lg⟩) h
/-- a stamp (tag 21): the entry of a key, in the map that bears its mark -/
def vStamp (q : Pos) (kv : V) : V := .c 21 0 0 0 q kv .n
def opMapEnt (ke : Nat) (z : V) (x y : G) : OpF := fun _ _ fr h k => x fr fun u => onMap ke u h fun p l => y fr fun kv => onKey ke kv fun a b => hname h fun q h1 =>
  lookK l a b (fun v => hput h1 p (.o 3 ke (.i q) l) fun h2 => k (vTup (vCons v (vCons (vStamp q kv) .n))) h2) (upK l a b kv z fun l' => hput h1 p (.o 3 ke (.i q) l') fun h2 => k (vTup (vCons z (vCons (vStamp q kv) .n))) h2)
def onMkI (mk p : Pos) (k : Bool) : Bool := @Pos.rec (fun _ => Bool) false (fun _ _ => false) (fun q _ => bi (q.eq p) k false) mk
def opEntSt (ke : Nat) (x y z : G) : OpF := fun _ _ fr h k => x fr fun u => onC u fun t _ _ _ p _ _ => bi (Nat.beq t 5) (hget h p fun a => onO a fun t e mk l => bi (Nat.beq t 3) (bi (Nat.beq e ke) (y fr fun s => onC s fun t _ _ _ q kv _ => bi (Nat.beq t 21) (onMkI mk q (onKey ke kv fun a b => z fr fun v => upK l a b kv v fun l' => hput h p (.o 3 ke .h l') fun h' => k vUndef h')) false) false) false) false
def opExt (i : Nat) (g : G) : OpF := fun _ _ fr h k => g fr fun v => onTup v fun l => nthK l i fun u => k u h
def opCall (f : G) (xs : List G) : OpF := fun cf rb fr h k => f fr fun v => evsK fr xs fun a => onC v fun t _ _ _ g fs cs => bi (Nat.beq t 7) (appK fs a fun b => appK b cs fun c => cf rb g c h k) (bi (Nat.beq t 8) (rb g a h k) false)
def opCallD (f : G) (xs : List G) : OpF := fun cf rb fr h k => f fr fun v => evsK fr xs fun a => onC v fun t _ _ _ g fs cs => bi (Nat.beq t 7) (appK fs a fun b => appK b cs fun c => cf rb g c h k) false
def opCallG (g : Pos) (xs : List G) : OpF := fun cf rb fr h k => evsK fr xs fun a => cf rb g a h k
/-- methods: (type, function) -/
def mNil : Nat → (Pos → Bool) → Bool := fun _ _ => false
def mCons (t : Nat) (g : Pos) (r : Nat → (Pos → Bool) → Bool) : Nat → (Pos → Bool) → Bool := fun u k => bi (Nat.beq t u) (k g) (r u k)
def opInv (r : G) (m : Nat → (Pos → Bool) → Bool) (xs : List G) : OpF := fun cf rb fr h k => r fr fun v => evsK fr xs fun a => onC v fun t ty _ _ _ u _ => bi (Nat.beq t 11) (m ty fun g => cf rb g (vCons u a) h k) false
def kLen (n : Nat) (h : Hp) (k : K1) : Bool := bi (Nat.blt n 9223372036854775808) (k (vInt 3 n) h) false
def opLenS (g : G) : OpF := fun _ _ fr h k => g fr fun v => isNilV 1 v (kLen 0 h k) (onSl v fun _ _ n _ => kLen n h k)
def opLenT (g : G) : OpF := fun _ _ fr h k => g fr fun v => onC v fun t _ n _ _ _ _ => bi (Nat.beq t 6) (kLen n h k) false
def opLenM (g : G) : OpF := fun _ _ fr h k => g fr fun v => isNilV 2 v (kLen 0 h k) (onC v fun t _ _ _ p _ _ => bi (Nat.beq t 5) (hget h p fun a => onO a fun t _ _ l => bi (Nat.beq t 3) (lenK l 0 fun n => kLen n h k) false) false)
/-- what is appended: how many, and the cells -/
def newsK (s : Nat) (v : V) (h : Hp) (c : Nat → V → Bool) : Bool := isNilV 1 v (c 0 .n) (onSl v fun p a n _ => hcells h p fun _ _ l => subK l a (Nat.mul n s) fun ys => c n ys)
def opApp (e s by_ : Nat) (x y : G) : OpF := fun _ _ fr h k => y fr fun v => newsK s v h fun m ys => x fr fun u => bi (Nat.beq m 0) (isNilV 1 u (k u h) (onSl u fun _ _ _ _ => k u h)) (allOne ys (
  isNilV 1 u (bi (Nat.ble (Nat.mul m by_) 16777216) (bi (Nat.ble m 16777216) (hnew h (.o 2 e .h ys) fun p h' => k (vSl p 0 m 0) h') false) false)
  (onSl u fun p o len cap1 => @Nat.rec (fun _ => Bool)
    (bi (Nat.beq o 0) (bi (Nat.ble (Nat.mul (Nat.add len m) by_) 16777216) (bi (Nat.ble (Nat.add len m) 16777216) (hcells h p fun t e' l => bi (Nat.beq t 2) (bi (Nat.beq e e') (subK l 0 (Nat.mul len s) fun xs => appK xs ys fun zs => hput h p .z fun h1 => hnew h1 (.o 2 e .h zs) fun q h' => fN (Nat.add len m) fun n' => k (vSl q 0 n' 0) h') false) false) false) false) false)
    (fun cap _ => bi (Nat.ble (Nat.add len m) cap) (hcells h p fun t e' l => bi (Nat.beq o 0) (bi (Nat.beq e e') (putK l (Nat.mul len s) ys fun l' => hput h p (.o t e .h l') fun h' => fN (Nat.add len m) fun n' => k (vSl p 0 n' cap1) h') false) false)
      (bi (Nat.ble (Nat.mul (Nat.add len m) by_) 16777216) (bi (Nat.ble (Nat.add len m) 16777216) (hcells h p fun _ _ l => subK l o (Nat.mul len s) fun xs => appK xs ys fun zs => hnew h (.o 2 e .h zs) fun q h' => fN (Nat.add len m) fun n' => k (vSl q 0 n' 0) h') false) false)) cap1)))
def nMax (m sg q : Nat) (a b : Nat) (k : V → Bool) : Bool := bi (Nat.blt (Nat.mod (Nat.add a sg) m) (Nat.mod (Nat.add b sg) m)) (k (vInt q b)) (k (vInt q a))
def nMin (m sg q : Nat) (a b : Nat) (k : V → Bool) : Bool := bi (Nat.blt (Nat.mod (Nat.add b sg) m) (Nat.mod (Nat.add a sg) m)) (k (vInt q b)) (k (vInt q a))

/-! ### regions -/
def rNil : RgF := fun _ _ fr h x k => k fr h x
def rSet (f : OpF) (s : S) (r : RgF) : RgF := fun cf rb fr h x k => f cf rb fr h fun v h' => s v fr fun fr' => r cf rb fr' h' x k
def rDrop (f : OpF) (r : RgF) : RgF := fun cf rb fr h x k => f cf rb fr h fun _ h' => r cf rb fr h' x k
/-- a guard: carried out if the slot holds w -/
def onGd (w : Bool) (v : V) (yes no : Bool) : Bool := onC v fun t a _ _ _ l _ => bi (Nat.beq t 0) (bi (Nat.beq a (@Bool.rec (fun _ => Nat) 0 1 w)) yes no) (bi (Nat.beq t 14) (onL l no fun _ _ => false) false)
def rSetG (g : G) (w : Bool) (f : OpF) (s : S) (r : RgF) : RgF := fun cf rb fr h x k => g fr fun c => onGd w c (f cf rb fr h fun v h' => s v fr fun fr' => r cf rb fr' h' x k) (s vUndef fr fun fr' => r cf rb fr' h x k)
def rDropG (g : G) (w : Bool) (f : OpF) (r : RgF) : RgF := fun cf rb fr h x k => g fr fun c => onGd w c (f cf rb fr h fun _ h' => r cf rb fr h' x k) (r cf rb fr h x k)
/-! regions that draw: 'rds': what the reads so far have read: (number, block) -/
inductive Rd where
  | nil
  | cons (i : Nat) (p : Pos) (r : Rd)
abbrev DrF := Cf → RB → T → Hp → X → Rd → KF → Bool
def inL (l : L) (p : Pos) (t f : Bool) : Bool := @L.rec (fun _ => Bool) f (fun q _ ih => bi (q.eq p) t ih) l
def inN (na : List Nat) (i : Nat) (t f : Bool) : Bool := @List.rec Nat (fun _ => Bool) f (fun j _ ih => bi (Nat.beq j i) t ih) na
def apart (rds : Rd) (na : List Nat) (lg : L) (k : Bool) : Bool := @Rd.rec (fun _ => Bool) k (fun i p _ ih => inN na i (inL lg p false ih) ih) rds
def appL (l : L) : L → (L → Bool) → Bool := @L.rec (fun _ => L → (L → Bool) → Bool) (fun m k => k m) (fun p _ ih m k => ih m fun q => k (.cons p q)) l
def dDone : DrF := fun _ _ fr h x _ k => k fr h x
/-- a quiet operation; 'rd': the operand that names the block that it reads -/
def dTake (f : OpF) (s : S) (r : DrF) : DrF := fun cf rb fr h x rds k => f cf rb fr h fun v h' => s v fr fun fr' => r cf rb fr' h' x rds k
def dRead (i : Nat) (rd : G) (f : OpF) (s : S) (r : DrF) : DrF := fun cf rb fr h x rds k => rd fr fun u => onC u fun _ _ _ _ p _ _ => f cf rb fr h fun v h' => s v fr fun fr' => r cf rb fr' h' x (.cons i p rds) k
def dTakeG (g : G) (w : Bool) (f : OpF) (s : S) (r : DrF) : DrF := fun cf rb fr h x rds k => g fr fun c => onGd w c (f cf rb fr h fun v h' => s v fr fun fr' => r cf rb fr' h' x rds k) (s vUndef fr fun fr' => r cf rb fr' h x rds k)
def dReadG (i : Nat) (rd : G) (g : G) (w : Bool) (f : OpF) (s : S) (r : DrF) : DrF := fun cf rb fr h x rds k => g fr fun c => onGd w c (rd fr fun u => onC u fun _ _ _ _ p _ _ => f cf rb fr h fun v h' => s v fr fun fr' => r cf rb fr' h' x (.cons i p rds) k) (s vUndef fr fun fr' => r cf rb fr' h x rds k)
/-- a loud operation, all of it (o carries it out, rNil behind it) -/
def dOne (na : List Nat) (o : RgF) (r : DrF) : DrF := fun cf rb fr h x rds k => @Hp.rec (fun _ => Bool) (fun t nx lg => o cf rb fr ⟨t, nx, .nil⟩ x fun fr' h' x' => @Hp.rec (fun _ => Bool) (fun t' nx' lg' => apart rds na lg' (appL lg' lg fun lg'' => r cf rb fr' ⟨t', nx', lg''⟩ x' rds k)) h') h
def dTwo (a b : DrF) : DrF := fun cf rb fr h x rds k => bi (a cf rb fr h x rds k) (b cf rb fr h x rds k) false

/-- a block that may be laid ahead: its operands are looked at now -/
def dPar (f : OpF) (r : DrF) : DrF := fun cf rb fr h x rds k => f cf rb fr h fun _ _ => r cf rb fr h x rds k
/-! ### code -/
def cSkip : Den := fun _ _ fr h x k => k 0 fr h x
def cSeq (a b : Den) : Den := fun cf rb fr h x k => a cf rb fr h x fun e fr' h' x' => @Nat.rec (fun _ => Bool) (b cf rb fr' h' x' k) (fun m _ => k (Nat.succ m) fr' h' x') e
def cReg (r : RgF) : Den := fun cf rb fr h x k => r cf rb fr h x (k 0)
def cDrw (d : DrF) : Den := fun cf rb fr h x k => d cf rb fr h x .nil (k 0)
def cCond (c : G) (a b : Den) : Den := fun cf rb fr h x k => c fr fun v => onBool v (a cf rb fr h x k) (b cf rb fr h x k)
def cBlock (id : Nat) (a : Den) : Den := fun cf rb fr h x k => a cf rb fr h x fun e fr' h' x' => bi (Nat.beq e (Nat.add id 2)) (k 0 fr' h' x') (k e fr' h' x')
def loopN (a : Den) (cf : Cf) (rb : RB) (n : Nat) : T → Hp → X → KS → Bool := @Nat.rec (fun _ => T → Hp → X → KS → Bool) (fun _ _ _ _ => false) (fun _ ih fr h x k => a cf rb fr h x fun e fr' h' x' => @Nat.rec (fun _ => Bool) (ih fr' h' x' k) (fun m _ => k (Nat.succ m) fr' h' x') e) n
def cLoop (n : Nat) (a : Den) : Den := fun cf rb fr h x k => loopN a cf rb n fr h x k
def cExit (id : Nat) : Den := fun _ _ fr h x k => k (Nat.add id 2) fr h x
def cRet : Den := fun _ _ fr h x k => k 1 fr h x
/-! results -/
abbrev ResF := T → Hp → (V → Bool) → Bool
def eNil : ResF := fun _ _ k => k .n
def eTmp (g : G) (r : ResF) : ResF := fun fr h k => g fr fun v => r fr h fun q => k (vCons v q)
def eOne (g : G) (r : ResF) : ResF := fun fr h k => g fr fun v => onPtr v fun p o => hcells h p fun _ _ l => nthK l o fun u => r fr h fun q => k (vCons u q)
def eAgg (m : Nat) (g : G) (r : ResF) : ResF := fun fr h k => g fr fun v => onPtr v fun p o => hcells h p fun _ _ l => subK l o m fun u => r fr h fun q => k (vCons (vAgg u) q)
def oneOf (l : V) (k : V → Bool) : Bool := onL l (k (vTup .n)) fun v r => onL r (k v) fun _ _ => k (vTup l)
structure Fn where
  n : Nat
  res : ResF
  body : Den
inductive FT where
  | nil
  | no (l r : FT)
  | node (l : FT) (f : Fn) (r : FT)
def FT.getK (p : Pos) : FT → (Fn → Bool) → Bool := @Pos.rec (fun _ => FT → (Fn → Bool) → Bool) (fun t k => @FT.rec (fun _ => Bool) false (fun _ _ _ _ => false) (fun _ f _ _ _ => k f) t) (fun _ ih t k => @FT.rec (fun _ => Bool) false (fun l _ _ _ => ih l k) (fun l _ _ _ _ => ih l k) t) (fun _ ih t k => @FT.rec (fun _ => Bool) false (fun _ r _ _ => ih r k) (fun _ _ r _ _ => ih r k) t) p
def FT.setK (x : Fn) (p : Pos) : FT → (FT → Bool) → Bool := @Pos.rec (fun _ => FT → (FT → Bool) → Bool)
  (fun t k => @FT.rec (fun _ => Bool) (k (.node .nil x .nil)) (fun l r _ _ => k (.node l x r)) (fun l _ r _ _ => k (.node l x r)) t)
  (fun _ ih t k => @FT.rec (fun _ => Bool) (ih .nil fun l' => k (.no l' .nil)) (fun l r _ _ => ih l fun l' => k (.no l' r)) (fun l v r _ _ => ih l fun l' => k (.node l' v r)) t)
  (fun _ ih t k => @FT.rec (fun _ => Bool) (ih .nil fun r' => k (.no .nil r')) (fun l r _ _ => ih r fun r' => k (.no l r')) (fun l v r _ _ => ih r fun r' => k (.node l v r')) t) p
def setArgs (l : V) : Pos → T → (T → Bool) → Bool := @V.rec (fun _ => Pos → T → (T → Bool) → Bool) (fun _ t k => k t) (fun _ _ _ _ _ v _ _ ih p t k => T.setK v p t fun t' => p.succK fun q => ih q t' k) l
def shutK (l : L) : Hp → (Hp → Bool) → Bool := @L.rec (fun _ => Hp → (Hp → Bool) → Bool) (fun h k => k h) (fun p _ ih h k => hget h p fun a => onO a fun t _ _ _ => bi (Nat.beq t 5) (hput h p .z fun h' => ih h' k) false) l
def callB (f : Fn) (ih : Cf) (rb : RB) (args : V) (h : Hp) (k : K1) : Bool := @Fn.rec (fun _ => Bool) (fun n res body => lenK args 0 fun m => bi (Nat.ble m n) (setArgs args .h .nil fun fr => body ih rb fr h ⟨.nil, .nil⟩ fun e fr' h' x' => bi (Nat.ble e 1) (@X.rec (fun _ => Bool) (fun df _ => shutK df h' fun h'' => res fr' h'' fun l => oneOf l fun v => k v h'') x') false) false) f
/-- calls that are not carried out: their results are known -/
abbrev Orc := Pos → V → Hp → K1 → Bool → Bool
def noOrc : Orc := fun _ _ _ _ d => d
/-- the rest of an int that is b modulo a (tag 16), by a divisor of a -/
def orcRest (p : Pos) : Orc := fun g args h k d => bi (g.eq p) (onL args d fun v l => onC v fun t m r _ _ _ _ => bi (Nat.beq t 16) (onL l false fun u l2 => onL l2 (onInt 3 u fun c => bi (Nat.beq c 0) false (bi (Nat.blt c 4294967296) (bi (Nat.beq (Nat.mod m c) 0) (fN (Nat.mod r c) fun q => k (vInt 3 q) h) false) false)) fun _ _ => false) d) d
def vRes (m r : Nat) : V := .c 16 m r 0 .h .n .n
/-- a value of one cell, whatever it is -/
def vAny : V := .c 18 0 0 0 .h .n .n
def cfN (orc : Orc) (fns : FT) (n : Nat) : Cf := @Nat.rec (fun _ => Cf) (fun _ _ _ _ _ => false) (fun _ ih rb g args h k => orc g args h k (FT.getK g fns fun f => callB f ih rb args h k)) n

/-! ### loops over functions -/
/-- params: slots (a list that carries names), in order, set to the arguments -/
def setPs (ps : V) : V → T → (T → Bool) → Bool := @V.rec (fun _ => V → T → (T → Bool) → Bool) (fun a t k => onL a (k t) fun _ _ => false) (fun _ _ _ _ p _ _ _ ih a t k => onL a false fun v r => T.setK v p t fun t' => ih r t' k) ps
/-- one round of the loop l: its states: 0 ready, 1 busy, e + 2: left by e -/
def roundK (ac bd : Den) (cf : Cf) (rb : RB) (l : Pos) (args : V) (h : Hp) (k : K1) : Bool :=
  hget h l fun a => onLp a fun s n tm ps d => bi (Nat.beq s 0) (setPs ps args tm fun fr => ac cf rb fr h ⟨.nil, .cons l .nil⟩ fun e fr1 h1 x1 => bi (Nat.beq e 0) (
    hget h1 l fun a1 => onLp a1 fun s1 n1 tm1 ps1 d1 => bi (Nat.beq s1 0) (hput h1 l (.lp 1 n1 tm1 ps1 d1) fun h2 => bd cf rb fr1 h2 x1 fun e2 _ h3 x3 => hget h3 l fun a3 => onLp a3 fun s3 n3 tm3 ps3 d3 => bi (Nat.beq s3 1) (@X.rec (fun _ => Bool) (fun df _ => @L.rec (fun _ => Bool)
      (@Nat.rec (fun _ => Bool) (hput h3 l (.lp 0 n3 tm3 ps3 d3) fun h4 => k vT h4) (fun m _ => hput h3 l (.lp (Nat.add m 3) n3 tm3 ps3 d3) fun h4 => k vF h4) e2) (fun _ _ _ => false) df) x3) false) false) false) false
def rbIn (ac bd : Den) (cf : Cf) (rb : RB) (l : Pos) : RB := fun p a h k => bi (p.eq l) (roundK ac bd cf rb l a h k) (rb p a h k)
def rfGo (n : Nat) (f : G) (ps : V) (ac bd : Den) (cf : Cf) (rb : RB) (fr : T) (d : Pos) (h : Hp) (x : X) (k : KS) : Bool :=
  hnew h (.lp 0 n fr ps d) fun l h1 => f fr fun fv => onC fv fun t _ _ _ g fs cs => bi (Nat.beq t 7) (appK fs (vCons (vYl l) cs) fun args => cf (rbIn ac bd cf rb l) g args h1 fun _ h2 => hget h2 l fun a => onLp a fun s _ _ _ _ =>
    @Nat.rec (fun _ => Bool) (hput h2 l .z fun h3 => k 0 fr h3 x) (fun m _ => @Nat.rec (fun _ => Bool) false (fun e _ => hput h2 l .z fun h3 => k e fr h3 x) m) s) false
def cRf (n : Nat) (f : G) (ps : V) (ac bd : Den) : Den := fun cf rb fr h x k => @X.rec (fun _ => Bool) (fun df rd => @L.rec (fun _ => Bool)
  (hnew h (.o 5 0 .h .n) fun d h' => rfGo n f ps ac bd cf rb fr d h' ⟨.cons d df, rd⟩ k)
  (fun l0 _ _ => hget h l0 fun a => onLp a fun _ _ _ _ d => rfGo n f ps ac bd cf rb fr d h ⟨df, rd⟩ k) rd) x

/-! ### from the model's code, in continuation style -/
def kc : IntKind → Nat
  | .i8 => 0 | .i16 => 1 | .i32 => 2 | .i64 => 3 | .u8 => 4 | .u16 => 5 | .u32 => 6 | .u64 => 7
def kbits : IntKind → Nat
  | .i8 | .u8 => 8 | .i16 | .u16 => 16 | .i32 | .u32 => 32 | .i64 | .u64 => 64
def kmod : IntKind → Nat
  | .i8 | .u8 => 256 | .i16 | .u16 => 65536 | .i32 | .u32 => 4294967296 | .i64 | .u64 => 18446744073709551616
/-- numbers from here on are negative -/
def khf : IntKind → Nat
  | .i8 => 128 | .i16 => 32768 | .i32 => 2147483648 | .i64 => 9223372036854775808 | .u8 => 256 | .u16 => 65536 | .u32 => 4294967296 | .u64 => 18446744073709551616
/-- what is added ahead of a comparison -/
def ksg : IntKind → Nat
  | .i8 => 128 | .i16 => 32768 | .i32 => 2147483648 | .i64 => 9223372036854775808 | _ => 0
def strK : List UInt8 → (Nat → Nat → Bool) → Bool
  | [], k => k 0 0
  | b :: l, k => strK l fun a n => fN (Nat.add b.toNat (Nat.mul 256 a)) fun a' => fN (Nat.succ n) fun n' => k a' n'
def scK : Value → (V → Bool) → Bool
  | .bool b, k => k (vBool b)
  | .int q (.ofNat a), k => bi (Nat.blt a (khf q)) (k (vInt (kc q) a)) false
  | .int q (.negSucc a), k => bi (Nat.blt a (Nat.sub (kmod q) (khf q))) (fN (Nat.sub (Nat.pred (kmod q)) a) fun b => k (vInt (kc q) b)) false
  | .string s, k => strK s.toList fun a n => k (vStr a n)
  | .pointer none, k => k (vNil 0)
  | .slice none 0 0, k => k (vNil 1)
  | .map none, k => k (vNil 2)
  | .nilFunc, k => k (vNil 3)
  | .nilIface, k => k (vNil 4)
  | _, _ => false
def scLK : List Value → (V → Bool) → Bool
  | [], k => k .n
  | v :: l, k => scK v fun a => scLK l fun q => k (vCons a q)
def avK : Value → (V → Bool) → Bool
  | .agg cs, k => scLK cs.toList fun l => k (vAgg l)
  | .tuple cs, k => scLK cs.toList fun l => k (vTup l)
  | v, k => scK v k
inductive Kd where
  | loud
  | quiet
  | read (g : G)
def keyK (P : Program) (t : TypeId) (k : Nat → Bool) : Bool := match P.underlying t with
  | some (.map kt _) => (match P.underlying kt with
    | some (.int q) => k (kc q)
    | some .string => k 8
    | _ => false)
  | _ => false
section
variable (P : Program) (n : Nat)
def opdK : Operand → (G → Bool) → Bool
  | .tmp t, k => bi (Nat.blt t n) (posK t fun p => gPosK p k) false
  | .const v, k => avK v fun a => k (gC a)
  | .func f, k => posK f fun p => k (gC (vFn p .n .n))
  | .global _, _ => false
def opdsK : List Operand → (List G → Bool) → Bool
  | [], k => k []
  | x :: l, k => opdK n x fun g => opdsK l fun r => k (g :: r)
def opdoK : Option Operand → (Option G → Bool) → Bool
  | none, k => k none
  | some x, k => opdK n x fun g => k (some g)
def zerosK (t : TypeId) (k : V → Bool) : Bool := match zeroOf P t with
  | some l => scLK l k
  | none => false
/-- parts of a struct: (field, operand) -/
def partsK (t : TypeId) : List (Nat × Operand) → ((T → V → (V → Bool) → Bool) → Bool) → Bool
  | [], k => k bNil
  | (i, x) :: l, k => match fieldPl P t i with
    | some (o, m) => opdK n x fun g => partsK t l fun r => k (bCons o m g r)
    | none => false
def apartsK (s : Nat) : List (Nat × Operand) → ((T → V → (V → Bool) → Bool) → Bool) → Bool
  | [], k => k bNil
  | (i, x) :: l, k => opdK n x fun g => fN (Nat.mul i s) fun o => apartsK s l fun r => k (bCons o s g r)
def seqK (s : Nat) : Nat → List (Nat × Operand) → (Nat → (T → (V → Bool) → Bool) → Bool) → Bool
  | i, [], k => k i qNil
  | i, (j, x) :: l, k => bi (Nat.beq i j) (opdK n x fun g => seqK s (Nat.succ i) l fun c r => k c (qCons s g r)) false
def elemU8 (t : TypeId) : Bool := match P.underlying t with
  | some (.slice e) => match P.underlying e with
    | some (.int .u8) => true
    | _ => false
  | _ => false
def isStr (t : TypeId) : Bool := match P.underlying t with
  | some .string => true
  | _ => false
abbrev KO := OpF → Kd → Bool
def intK (q : IntKind) (o : BinOp) (x y : G) (k : KO) : Bool :=
  let f (g : Nat → Nat → (V → Bool) → Bool) : Bool := k (bin2 (kc q) x y g) .quiet
  match o with
  | .add => k (opAdd (kc q) (kmod q) x y) .quiet
  | .sub => f (nSub (kc q) (kmod q))
  | .mul => f (nMul (kc q) (kmod q))
  | .quo => f (nQuo (kc q) (kmod q) (khf q))
  | .rem => k (opRem (kc q) (kmod q) (khf q) x y) .quiet
  | .and => k (opAnd2 (kc q) x y) .quiet
  | .or => f (nOr (kc q))
  | .xor => f (nXor (kc q))
  | .eql => f nEql
  | .neq => f nNeq
  | .lss => f (nLss (kmod q) (ksg q))
  | .leq => f (nLeq (kmod q) (ksg q))
  | .gtr => f fun a b => nLss (kmod q) (ksg q) b a
  | .geq => f fun a b => nLeq (kmod q) (ksg q) b a
  | .shl => k (opShl (kc q) (kmod q) (kbits q) x y) .quiet
  | .shr => k (opShrR (kc q) (khf q) (kbits q) x y) .quiet
  | _ => false
def strOpK (o : BinOp) (x y : G) (k : KO) : Bool := match o with
  | .add => k (str2 x y sAdd) .quiet
  | .eql => k (str2 x y sEql) .quiet
  | .neq => k (str2 x y sNeq) .quiet
  | .lss => k (str2 x y sLss) .quiet
  | .gtr => k (str2 x y sGtr) .quiet
  | _ => false
def eqnK (w tg : Nat) (o : BinOp) (x y : G) (k : KO) : Bool := match o with
  | .eql => k (opEqN w tg vT vF x y) .quiet
  | .neq => k (opEqN w tg vF vT x y) .quiet
  | _ => false
def isC : Operand → Bool
  | .const _ => true
  | _ => false
def binK (o : BinOp) (t : TypeId) (x y : Operand) (gx gy : G) (k : KO) : Bool := match P.underlying t with
  | some (.int q) => intK q o gx gy k
  | some .string => strOpK o gx gy k
  | some .bool => (match o with
    | .eql => k (opEqB vT vF gx gy) .quiet
    | .neq => k (opEqB vF vT gx gy) .quiet
    | _ => false)
  | some (.pointer e) => bi (isC x || isC y) (eqnK 0 2 o gx gy k) (match tyOf P e with
    | some (_, Nat.succ _) => (match o with
      | .eql => k (opEqP vT vF gx gy) .loud
      | .neq => k (opEqP vF vT gx gy) .loud
      | _ => false)
    | _ => false)
  | some (.slice _) => bi (isC x || isC y) (eqnK 1 4 o gx gy k) false
  | some (.map _ _) => bi (isC x || isC y) (eqnK 2 5 o gx gy k) false
  | some (.func _ _ _) => bi (isC x || isC y) (eqnK 3 7 o gx gy k) false
  | some (.interface _) => bi (isC x || isC y) (eqnK 4 11 o gx gy k) false
  | _ => false
/-- the methods of this name -/
def methOf (t : Nat) (name : String) : Option Nat := match P.info? t with
  | none => none
  | some i => match i.methods.find? (·.name == name) with
    | none => none
    | some m => match m.path.isEmpty, m.func, P.underlying t with
      | true, some (f, true), some (.pointer _) => some f
      | true, some (_, false), some (.pointer _) => none
      | true, some (f, false), some (.interface _) => none
      | true, some (f, false), some _ => some f
      | _, _, _ => none
def methsK (name : String) : Nat → ((Nat → (Pos → Bool) → Bool) → Bool) → Bool
  | 0, k => k mNil
  | t + 1, k => match methOf P t name with
    | some g => posK g fun p => fN t fun t' => methsK name t fun r => k (mCons t' p r)
    | none => methsK name t k
def copK (dr : Bool) : Op → KO → Bool
  | .move x, k | .assign x, k => opdK n x fun g => k (opMv g) .quiet
  | .pick c a b, k => opdK n c fun c => opdK n a fun a => opdK n b fun b => k (opPick c a b) .quiet
  | .alloc t, k => zerosK P t fun z => k (opAlloc z t) .loud
  | .box t x, k => opdK n x fun g => k (opBox t g) .loud
  | .build t ps, k => zerosK P t fun z => (match P.underlying t with
    | some (.array _ e) => (match tyOf P e with
      | some (_, s) => apartsK n s ps.toList fun b => k (opBuild z b) .quiet
      | none => false)
    | _ => bi (isStruct P t) (partsK P n t ps.toList fun b => k (opBuild z b) .quiet) false)
  | .buildSlice t len ps, k => (match P.underlying t with
    | some (.slice e) => (match tyOf P e, zeroVal P e with
      | some (_, s), some _ => bi (Nat.ble (Nat.mul len s) 16777216) (bi (Nat.ble 1 s) (seqK n s 0 ps.toList fun c b => bi (Nat.beq c len) (k (opBsl e len b) .loud) false) false) false
      | _, _ => false)
    | _ => false)
  | .load t a, k => opdK n a fun g => (match tyOf P t with
    | some (false, 1) => k (opLd1 g) (.read g)
    | some (true, m) => k (opLdN m g) (.read g)
    | _ => false)
  | .store t a v, k => opdK n a fun x => opdK n v fun y => (match tyOf P t with
    | some (_, m) => k (opSt m x y) .loud
    | none => false)
  | .nilCheck x, k => opdK n x fun g => k (opNck g) .quiet
  | .binOp o t x y _, k => opdK n x fun gx => opdK n y fun gy => binK P o t x y gx gy k
  | .unOp .not _ x, k => opdK n x fun g => k (opNot g) .quiet
  | .convert src dst x, k => opdK n x fun g => (match P.underlying src, P.underlying dst with
    | some (.int q0), some (.int q) => k (opCvR (kc q) (kmod q) (kc q0) (kmod q0) (khf q0) g) .quiet
    | _, _ => bi (isStr P src) (bi (isStr P dst) (k (opSv g) .quiet) false) (bi (elemU8 P src) (bi (isStr P dst) (k (opB2s g) (.read g)) false) false))
  | .makeInterface t x, k => opdK n x fun g => (match P.underlying t with
    | some (.interface _) => false
    | some _ => k (opMki t g) .quiet
    | none => false)
  | .makeFunc (.func g) fs cs, k => posK g fun p => opdsK n fs.toList fun a => opdsK n cs.toList fun b => k (opMkf p a b) .quiet
  | .makeMap t none, k => keyK P t fun ke => k (opMkm ke) .loud
  | .makeSlice t l c, k => opdK n l fun x => opdK n c fun y => (match P.underlying t with
    | some (.slice e) => (match bytesT P e with
      | some b => (match tyOf P e, zeroOf P e with
        | some (_, s), some zl => bi (Nat.beq zl.length s) (zerosK P e fun z => k (opMks e b z x y) .loud) false
        | _, _ => false)
      | none => false)
    | _ => false)
  | .slice t x lo hi mx, k => opdK n x fun g => opdoK n lo fun lo => opdoK n hi fun hi => opdoK n mx fun mx => bi (hi.isNone && mx.isSome) false (match P.underlying t with
    | some (.slice e) => (match tyOf P e with
      | some (_, s) => bi (Nat.ble 1 s) (k (opSlS s g lo hi mx) .quiet) false
      | none => false)
    | some (.array m e) => (match tyOf P e with
      | some (_, s) => k (opSlA m s g lo hi mx) .quiet
      | none => false)
    | some .string => (match mx with
      | none => k (opSlT g lo hi) .quiet
      | some _ => false)
    | _ => false)
  | .fieldAddr s x f, k => opdK n x fun g => (match fieldOff P s f with
    | some o => k (opFa o g) .quiet
    | none => false)
  | .field s x f, k => opdK n x fun g => (match fieldTy P s f with
    | some (o, false, _) => k (opFd1 o g) .quiet
    | some (o, true, m) => k (opFdN o m g) .quiet
    | none => false)
  | .indexAddr t x y, k => opdK n x fun x => opdK n y fun y => (match P.underlying t with
    | some (.slice e) => (match tyOf P e with
      | some (_, s) => k (opIxs s x y) .quiet
      | none => false)
    | some (.array m e) => (match tyOf P e with
      | some (_, s) => k (opIxa m s x y) .quiet
      | none => false)
    | _ => false)
  | .index t x y, k => opdK n x fun x => opdK n y fun y => (match P.underlying t with
    | some (.array m e) => (match tyOf P e with
      | some (false, s) => k (opIxv1 m s x y) .quiet
      | some (true, s) => k (opIxvN m s x y) .quiet
      | none => false)
    | some .string => k (opIxt x y) .quiet
    | _ => false)
  | .lookup t x y ok, k => opdK n x fun x => opdK n y fun y => keyK P t fun ke => (match P.underlying t with
    | some (.map _ e) => (match zeroVal P e with
      | some z => avK z fun z => (match ok with
        | true => k (opLkOk ke z x y) (.read x)
        | false => k (opLk ke z x y) (.read x))
      | none => false)
    | _ => false)
  | .mapUpdate t x y z, k | .insert t x y z, k => opdK n x fun x => opdK n y fun y => opdK n z fun z => keyK P t fun ke => k (opMup ke x y z) .loud
  | .mapEntry t x y, k => opdK n x fun x => opdK n y fun y => keyK P t fun ke => (match P.underlying t with
    | some (.map _ e) => (match zeroVal P e with
      | some z => avK z fun z => k (opMapEnt ke z x y) .loud
      | none => false)
    | _ => false)
  | .entryStore t x y z, k => opdK n x fun x => opdK n y fun y => opdK n z fun z => keyK P t fun ke => k (opEntSt ke x y z) .loud
  | .range t x, k => opdK n x fun g => keyK P t fun ke => bi (Nat.blt ke 8) (k (opRng ke g) .loud) false
  | .next x false, k => opdK n x fun g => k (opNx g) .loud
  | .entry x, k => opdK n x fun g => k (opEn g) .loud
  | .extract x i, k => opdK n x fun g => k (opExt i g) .quiet
  | .call ⟨.value (.func f), xs, _⟩, k => posK f fun p => opdsK n xs.toList fun xs => k (opCallG p xs) .loud
  | .call ⟨.value f, xs, _⟩, k => opdK n f fun f => opdsK n xs.toList fun xs => (match dr with
    | true => k (opCallD f xs) .loud
    | false => k (opCall f xs) .loud)
  | .call ⟨.invoke r name, xs, _⟩, k => opdK n r fun r => opdsK n xs.toList fun xs => methsK P name P.types.size fun m => k (opInv r m xs) .loud
  | .call ⟨.builtin .len, ⟨[x]⟩, ⟨[t]⟩⟩, k => opdK n x fun g => (match P.underlying t with
    | some (.slice _) => k (opLenS g) .quiet
    | some .string => k (opLenT g) .quiet
    | some (.map _ _) => k (opLenM g) (.read g)
    | _ => false)
  | .call ⟨.builtin .append, ⟨[x, y]⟩, ⟨[t, u]⟩⟩, k => opdK n x fun x => opdK n y fun y => bi (Nat.beq t u) (match P.underlying t with
    | some (.slice e) => (match tyOf P e, bytesT P e, zeroOf P e with
      | some (_, s), some b, some zl => bi (Nat.ble 1 s) (bi (Nat.beq zl.length s) (k (opApp e s b x y) .loud) false) false
      | _, _, _ => false)
    | _ => false) false
  | .call ⟨.builtin .delete, ⟨[x, y]⟩, ⟨[t, _]⟩⟩, k => opdK n x fun x => opdK n y fun y => keyK P t fun ke => k (opDel ke x y) .loud
  | .call ⟨.builtin .max, ⟨[x, y]⟩, ⟨t :: _⟩⟩, k => opdK n x fun x => opdK n y fun y => (match P.underlying t with
    | some (.int q) => k (bin2 (kc q) x y (nMax (kmod q) (ksg q) (kc q))) .quiet
    | _ => false)
  | .call ⟨.builtin .min, ⟨[x, y]⟩, ⟨t :: _⟩⟩, k => opdK n x fun x => opdK n y fun y => (match P.underlying t with
    | some (.int q) => k (bin2 (kc q) x y (nMin (kmod q) (ksg q) (kc q))) .quiet
    | _ => false)
  | _, _ => false
/-- destination and guard -/
def gdK (ops : Array Oper) (o : Oper) (k : Option (G × Bool) → Bool) : Bool := match o.guard with
  | none => k none
  | some (j, b) => match (ops[j]?).bind (·.dst) with
    | none => false
    | some dj => bi (Nat.blt dj n) (posK dj fun p => gPosK p fun g => k (some (g, b))) false
def dstK (d : Option Tmp) (k : Option S → Bool) : Bool := match d with
  | none => k none
  | some d => bi (Nat.blt d n) (posK d fun p => sPosK p fun s => k (some s)) false
def rMk (f : OpF) (s : Option S) (g : Option (G × Bool)) (r : RgF) : RgF := match g, s with
  | none, some s => rSet f s r
  | none, none => rDrop f r
  | some (g, w), some s => rSetG g w f s r
  | some (g, w), none => rDropG g w f r
def regK (ops : Array Oper) : List Oper → (RgF → Bool) → Bool
  | [], k => k rNil
  | o :: l, k => copK P n false o.op fun f _ => dstK n o.dst fun s => gdK n ops o fun g => regK ops l fun r => (match g, s with
    | none, some s => k (rSet f s r)
    | none, none => k (rDrop f r)
    | some (g, w), some s => k (rSetG g w f s r)
    | some (g, w), none => k (rDropG g w f r))
def quietOp : Op → Bool
  | .binOp _ t x y _ => isC x || isC y || (match P.underlying t with
    | some (.pointer _) => false
    | _ => true)
  | .move _ | .assign _ | .pick .. | .build .. | .load .. | .nilCheck _ | .unOp .. | .convert .. | .makeInterface .. | .makeFunc .. | .slice .. | .fieldAddr .. | .field .. | .indexAddr .. | .index .. | .lookup .. | .extract .. => true
  | .call ⟨.builtin .len, _, _⟩ | .call ⟨.builtin .max, _, _⟩ | .call ⟨.builtin .min, _, _⟩ => true
  | _ => false
def readOp : Op → Bool
  | .load .. | .lookup .. | .convert .. => true
  | .call ⟨.builtin .len, _, _⟩ => true
  | _ => false
/-- operations that lay one block and read no other -/
def allocOp : Op → Bool
  | .alloc _ | .box .. | .buildSlice .. => true
  | _ => false
def notBefore (bf : Array Nat) (tk : List Nat) (j : Nat) : List Nat := tk.filter fun i => !((bf.getD j 0).testBit i)
def natsK : List Nat → (List Nat → Bool) → Bool
  | [], k => k []
  | i :: l, k => fN i fun i' => natsK l fun r => k (i' :: r)
def loudK (ops : Array Oper) (bf : Array Nat) (tk : List Nat) (j : Nat) (k : (DrF → DrF) → Bool) : Bool := match ops[j]? with
  | none => false
  | some o => copK P n true o.op fun f _ => dstK n o.dst fun s => gdK n ops o fun g => natsK (notBefore bf tk j) fun na => (match g, s with
    | none, some s => k (dOne na (rSet f s rNil))
    | none, none => k (dOne na (rDrop f rNil))
    | some (g, w), some s => k (dOne na (rSetG g w f s rNil))
    | some (g, w), none => k (dOne na (rDropG g w f rNil)))
/-! what may come next in a region that draws, by masks: 'Row': an operation's number, its bit, the bits of it and of those it waits for, the bits of those it may not be taken ahead of -/
inductive Row where
  | mk (i b w c : Nat)
inductive Rw1 where
  | mk (i b w d l : Nat)
def orK : List Nat → (Nat → Bool) → Bool
  | [], k => k 0
  | i :: l, k => orK l fun m => fN (Nat.lor (Nat.pow 2 i) m) k
def afts (o : Oper) : List Nat := (o.after.toList.filter (Region.binds .any)).map (·.on)
def dstL (o : Oper) : List Nat := match o.dst with
  | some d => [d]
  | none => []
def rw1K (ops : Array Oper) (z : Nat) : List Nat → (List Rw1 → Bool) → Bool
  | [], k => k []
  | i :: l, k => fN i fun i => match ops[i]? with
    | none => false
    | some o => bi ((afts o).all fun e => Nat.blt e z && !(Nat.beq e i)) (orK [i] fun b => orK (i :: afts o) fun w => orK (dstL o) fun d => orK (o.looksAt ops) fun lk => rw1K ops z l fun r => k (.mk i b w d lk :: r)) false
/-- the operation of the row waits for i, or is apart from it, or is i -/
def okM (i b d lk : Nat) : Rw1 → Bool
  | .mk j _ w d' lk' => match Nat.beq j i with
    | true => true
    | false => match Nat.beq (Nat.land w b) 0 with
      | false => true
      | true => match Nat.beq (Nat.land d (Nat.lor lk' d')) 0 with
        | false => false
        | true => Nat.beq (Nat.land d' lk) 0
def cK (i b d lk : Nat) : List Rw1 → (Nat → Bool) → Bool
  | [], k => k 0
  | r :: l, k => match okM i b d lk r with
    | true => cK i b d lk l k
    | false => cK i b d lk l fun m => match r with
      | .mk _ bj _ _ _ => fN (Nat.lor bj m) k
def rw2K (all : List Rw1) : List Rw1 → (List Row → Bool) → Bool
  | [], k => k []
  | .mk i b w d lk :: l, k => cK i b d lk all fun c => rw2K all l fun r => k (.mk i b w c :: r)
def rowsK (ops : Array Oper) (k : List Row → Bool) : Bool := rw1K ops ops.size (List.range ops.size) fun r => rw2K r r k
/-- those that may come next -/
def rdyK (u : Nat) : List Row → (List Row → Bool) → Bool
  | [], k => k []
  | .mk i b w c :: l, k => match Nat.beq (Nat.land u w) b with
    | true => rdyK u l fun r => k (.mk i b w c :: r)
    | false => rdyK u l k
def fndM (ops : Array Oper) (u : Nat) : List Row → Option Row
  | [] => none
  | .mk i b w c :: l => match Nat.beq (Nat.land u c) 0 with
    | false => fndM ops u l
    | true => match ops[i]? with
      | none => fndM ops u l
      | some o => match quietOp P o.op && o.dst.isSome with
        | true => some (.mk i b w c)
        | false => fndM ops u l
def rdy1 (u : Nat) (rows : List Row) (j : Nat) : Bool := rdyK u rows fun rs => match rs with
  | [.mk a _ _ _] => Nat.beq a j
  | _ => false
/-- operation i lays a block, and no other operation than j comes ahead of it or between: its place is of no matter -/
def parC (ops : Array Oper) (rows : List Row) (u i bi j bj : Nat) : Bool := match ops[i]?, ops[j]? with
  | some o, some o2 => allocOp o.op && o.guard.isNone && o.apart ops o2 && !(Nat.beq i j) && rdy1 (Nat.xor u bi) rows j && rdy1 (Nat.xor u bj) rows i
  | _, _ => false
def parK (ops : Array Oper) (bf : Array Nat) (tk : List Nat) (i j : Nat) (k : (DrF → DrF) → Bool) : Bool := match ops[i]? with
  | some o => copK P n true o.op fun f _ => dstK n o.dst fun s => (match s with
    | some s => natsK (notBefore bf tk i) fun na => loudK P n ops bf tk j fun b => k fun r => dPar f (b (dOne na (rSet f s rNil) r))
    | none => false)
  | none => false
/-- u: the bits of those that have not come up -/
def schK (ops : Array Oper) (bf : Array Nat) (rows : List Row) : Nat → Nat → List Nat → (DrF → Bool) → Bool
  | 0, _, _, _ => false
  | fu + 1, u, tk, k => rdyK u rows fun rs => match rs with
    | [] => k dDone
    | r0 :: rl => match fndM P ops u (r0 :: rl) with
      | some (.mk i b _ _) => (match ops[i]? with
        | some o => copK P n true o.op fun f kd => dstK n o.dst fun s => gdK n ops o fun g => fN (Nat.xor u b) fun u => schK ops bf rows fu u (match readOp o.op with
            | true => i :: tk
            | false => tk) fun r => (match kd, g, s with
          | .quiet, none, some s => k (dTake f s r)
          | .quiet, some (g, w), some s => k (dTakeG g w f s r)
          | .read rd, none, some s => bi (readOp o.op) (fN i fun i' => k (dRead i' rd f s r)) false
          | .read rd, some (g, w), some s => bi (readOp o.op) (fN i fun i' => k (dReadG i' rd g w f s r)) false
          | _, _, _ => false)
        | none => false)
      | none => (match r0, rl with
        | .mk i b _ _, [] => loudK P n ops bf tk i fun a => fN (Nat.xor u b) fun u => schK ops bf rows fu u tk fun r => k (a r)
        | .mk i b _ _, [.mk j b' _ _] => (match parC ops rows u i b j b' with
          | true => (match fu with
            | 0 => false
            | fu2 + 1 => parK P n ops bf tk i j fun c => fN (Nat.xor (Nat.xor u b) b') fun u => schK ops bf rows fu2 u tk fun r => k (c r))
          | false => (match parC ops rows u j b' i b with
          | true => (match fu with
            | 0 => false
            | fu2 + 1 => parK P n ops bf tk j i fun c => fN (Nat.xor (Nat.xor u b') b) fun u => schK ops bf rows fu2 u tk fun r => k (c r))
          | false => loudK P n ops bf tk i fun a => loudK P n ops bf tk j fun a' => fN (Nat.xor u b) fun u1 => schK ops bf rows fu u1 tk fun r => fN (Nat.xor u b') fun u2 => schK ops bf rows fu u2 tk fun r' => k (dTwo (a r) (a' r'))))
        | _, _ => false)
def noDefer (ops : List Oper) : Bool := ops.all fun o => match o.op with
  | .defer _ => false
  | _ => true
def psK : List Nat → (V → Bool) → Bool
  | [], k => k .n
  | p :: l, k => bi (Nat.blt p n) (posK p fun q => psK l fun r => k (.c 13 0 0 0 q .n r)) false
def loopMax : Nat := 100000
def denK : Code → (Den → Bool) → Bool
  | .skip, k => k cSkip
  | .label _, k => k cSkip
  | .region _ ops false, k => regK P n ops ops.toList fun r => k (cReg r)
  | .region _ ops true, k => bi (Region.noSelect ops && noDefer ops.toList && P.follows .mixedOrders) (natsK (Region.before ops).toList fun bf => rowsK ops fun rows => fN (Nat.sub (Nat.pow 2 ops.size) 1) fun u => schK P n ops bf.toArray rows (ops.size + 1) u [] fun d => k (cDrw d)) false
  | .seq a b, k => denK a fun a => denK b fun b => k (cSeq a b)
  | .cond c a b, k => opdK n c fun c => denK a fun a => denK b fun b => k (cCond c a b)
  | .block id a, k => fN id fun id => denK a fun a => k (cBlock id a)
  | .loop a, k => denK a fun a => k (cLoop loopMax a)
  | .rangeFunc f ps ac bd, k => opdK n f fun f => psK n ps.toList fun ps => denK ac fun a => denK bd fun b => k (cRf n f ps a b)
  | .exit id, k => fN id fun id => k (cExit id)
  | .ret, k => k cRet
  | _, _ => false
def resK : List ResultVar → (ResF → Bool) → Bool
  | [], k => k eNil
  | .tmp t :: l, k => bi (Nat.blt t n) (posK t fun p => gPosK p fun g => resK l fun r => k (eTmp g r)) false
  | .cell a t :: l, k => bi (Nat.blt a n) (posK a fun p => gPosK p fun g => resK l fun r => (match tyOf P t with
      | some (false, 1) => k (eOne g r)
      | some (true, m) => k (eAgg m g r)
      | _ => false)) false
end
def fnK (P : Program) (g : Nat) (k : Fn → Bool) : Bool := match P.funcs[g]? with
  | none => false
  | some fn => match fn.body with
    | none => false
    | some c => bi (fn.name == "runtime.NumGoroutine") false (bi (Nat.ble fn.results.toList.length 3) (resK P fn.ntmps fn.results.toList fun r => denK P fn.ntmps c fun d => k ⟨fn.ntmps, r, d⟩) false)
/-- the functions gs, compiled -/
def tabK (P : Program) : List Nat → FT → (FT → Bool) → Bool
  | [], t, k => k t
  | g :: l, t, k => fnK P g fun f => posK g fun p => FT.setK f p t fun t' => tabK P l t' k
def noRb : RB := fun _ _ _ _ => false
/-- the call of g with args returns true -/
def chk (P : Program) (orc : Orc) (gs : List Nat) (fuel g : Nat) (args : V) : Bool := tabK P gs .nil fun fns => posK g fun p => cfN orc fns fuel noRb p args ⟨.nil, .h, .nil⟩ fun v _ => onBool v true false
end
end Go.Rc
