/-
  Chapter 13's program: the trees of its statements. By program; each equation is checked by the kernel.
  It speaks of the pinned program alone; no condition.
-/
import Derived.Test.YtclpckkidfleoaaY3
namespace Go.Proofs.Ytclpckkidfleoaa.V
open Go
set_option linter.unusedVariables false

theorem t7 (A : Ar) : bodyX (Cx A (O9 A) noL) 100 Try.f7 [] [] =
    (bif
      A.se
        (decide (List.length [(172 : Int), (2 : Int), (9 : Int)] ≤ (100000 : Nat)) &&
          (bytesB [(172 : Int), (2 : Int), (9 : Int)] &&
            (!false || List.isEmpty [(172 : Int), (2 : Int), (9 : Int)]))) then
    bif
        A.se
          (decide (List.length [(128 : Int), (0 : Int)] ≤ (100000 : Nat)) &&
            (bytesB [(128 : Int), (0 : Int)] && (!false || List.isEmpty [(128 : Int), (0 : Int)]))) then
      bif
          A.se
            (decide (List.length [(200 : Int)] ≤ (100000 : Nat)) &&
              (bytesB [(200 : Int)] && (!false || List.isEmpty [(200 : Int)]))) then
        bif
            A.se
              (decide
                  (List.length
                      [(255 : Int), (255 : Int), (255 : Int), (255 : Int), (255 : Int), (255 : Int), (255 : Int),
                        (255 : Int), (255 : Int), (1 : Int)] ≤
                    (100000 : Nat)) &&
                (bytesB
                    [(255 : Int), (255 : Int), (255 : Int), (255 : Int), (255 : Int), (255 : Int), (255 : Int),
                      (255 : Int), (255 : Int), (1 : Int)] &&
                  (!false ||
                    List.isEmpty
                      [(255 : Int), (255 : Int), (255 : Int), (255 : Int), (255 : Int), (255 : Int), (255 : Int),
                        (255 : Int), (255 : Int), (1 : Int)]))) then
          bif A.se (isU64 (300 : Int) && (decide ((0 : Nat) ≤ (100000 : Nat)) && (!true || true))) then
            bif
                A.seq (strOf (A.se ([] ++ vb (Int.toNat (300 : Int))))) { data := #[(172 : UInt8), (2 : UInt8)] } ==
                  true then
              bif (A.se (tkN [(172 : Int), (2 : Int), (9 : Int)]) == (300 : Int)) == true then
                bif A.seq (strOf (A.se (tkR [(172 : Int), (2 : Int), (9 : Int)]))) { data := #[(9 : UInt8)] } == true then
                  bif (A.se (tkE [(172 : Int), (2 : Int), (9 : Int)]) == (0 : Int)) == true then
                    bif (A.se (tkE [(128 : Int), (0 : Int)]) == (130 : Int)) == true then
                      bif (A.se (tkE [(200 : Int)]) == (130 : Int)) == true then
                        bif
                            (A.se
                                  (tkN
                                    [(255 : Int), (255 : Int), (255 : Int), (255 : Int), (255 : Int), (255 : Int),
                                      (255 : Int), (255 : Int), (255 : Int), (1 : Int)]) ==
                                (18446744073709551615 : Int)) ==
                              true then
                          bif
                              (A.se
                                    (tkE
                                      [(255 : Int), (255 : Int), (255 : Int), (255 : Int), (255 : Int), (255 : Int),
                                        (255 : Int), (255 : Int), (255 : Int), (1 : Int)]) ==
                                  (0 : Int)) ==
                                true then
                            bif A.se (isU64 (127 : Int)) then
                              bif (A.se (↑(List.length (vb (Int.toNat (127 : Int)))) : Int) == (1 : Int)) == true then
                                bif A.se (isU64 (128 : Int)) then
                                  bif (A.se (↑(List.length (vb (Int.toNat (128 : Int)))) : Int) == (2 : Int)) == true then
                                    bif A.se (isU64 (18446744073709551615 : Int)) then
                                      bif
                                          A.se (↑(List.length (vb (Int.toNat (18446744073709551615 : Int)))) : Int) ==
                                            (10 : Int) then
                                        some (X.d Ty.bool true, [])
                                      else some (X.d Ty.bool false, [])
                                    else none
                                  else some (X.d Ty.bool false, [])
                                else none
                              else some (X.d Ty.bool false, [])
                            else none
                          else some (X.d Ty.bool false, [])
                        else some (X.d Ty.bool false, [])
                      else some (X.d Ty.bool false, [])
                    else some (X.d Ty.bool false, [])
                  else some (X.d Ty.bool false, [])
                else some (X.d Ty.bool false, [])
              else some (X.d Ty.bool false, [])
            else some (X.d Ty.bool false, [])
          else none
        else none
      else none
    else none
    else none) := by kernel_rfl
theorem t5 (A : Ar) (a b : Int) : bodyX (Cx A (O7 A) noL) 200 Try.f5 [u64x a, u64x b] [] =
    (bif (a == (0 : Int)) == false then
    bif decide (a ≥ (144115188075855872 : Int)) == false then
      bif A.se (isU64 (A.wrap IntKind.u64 (a * (128 : Int)))) then
        bif A.se (isU64 a) then
          bif A.se (isU64 (if b < a then b else a)) then
            bif A.se (isU64 (if b > a then b else a)) then
              bif
                  decide
                      (A.se (↑(List.length (vb (Int.toNat (if b < a then b else a)))) : Int) ≤
                        A.se (↑(List.length (vb (Int.toNat (if b > a then b else a)))) : Int)) ==
                    true then
                bif A.se (isU64 a) then
                  bif decide (A.se (↑(List.length (vb (Int.toNat a))) : Int) ≥ (1 : Int)) == true then
                    bif A.se (isU64 a) then
                      bif decide (A.se (↑(List.length (vb (Int.toNat a))) : Int) ≤ (10 : Int)) == true then
                        some
                          (X.d Ty.bool
                              (A.se (↑(List.length (vb (Int.toNat (A.wrap IntKind.u64 (a * (128 : Int)))))) : Int) ==
                                A.wrap IntKind.i64 (A.se (↑(List.length (vb (Int.toNat a))) : Int) + (1 : Int))),
                            [])
                      else some (X.d Ty.bool false, [])
                    else none
                  else some (X.d Ty.bool false, [])
                else none
              else some (X.d Ty.bool false, [])
            else none
          else none
        else none
      else none
    else
      bif A.se (isU64 (if b < a then b else a)) then
        bif A.se (isU64 (if b > a then b else a)) then
          bif
              decide
                  (A.se (↑(List.length (vb (Int.toNat (if b < a then b else a)))) : Int) ≤
                    A.se (↑(List.length (vb (Int.toNat (if b > a then b else a)))) : Int)) ==
                true then
            bif A.se (isU64 a) then
              bif decide (A.se (↑(List.length (vb (Int.toNat a))) : Int) ≥ (1 : Int)) == true then
                bif A.se (isU64 a) then
                  bif decide (A.se (↑(List.length (vb (Int.toNat a))) : Int) ≤ (10 : Int)) == true then
                    some (X.d Ty.bool true, [])
                  else some (X.d Ty.bool false, [])
                else none
              else some (X.d Ty.bool false, [])
            else none
          else some (X.d Ty.bool false, [])
        else none
      else none
    else
    bif A.se (isU64 (if b < a then b else a)) then
      bif A.se (isU64 (if b > a then b else a)) then
        bif
            decide
                (A.se (↑(List.length (vb (Int.toNat (if b < a then b else a)))) : Int) ≤
                  A.se (↑(List.length (vb (Int.toNat (if b > a then b else a)))) : Int)) ==
              true then
          bif A.se (isU64 a) then
            bif decide (A.se (↑(List.length (vb (Int.toNat a))) : Int) ≥ (1 : Int)) == true then
              bif A.se (isU64 a) then
                bif decide (A.se (↑(List.length (vb (Int.toNat a))) : Int) ≤ (10 : Int)) == true then
                  some (X.d Ty.bool true, [])
                else some (X.d Ty.bool false, [])
              else none
            else some (X.d Ty.bool false, [])
          else none
        else some (X.d Ty.bool false, [])
      else none
    else none) := by kernel_rfl
theorem t3 (A : Ar) (b : List Int) (nl : Bool) (n : Int) : bodyX (Cx A (O7 A) noL) 200 Try.f3 [u8s b (some nl) false, u64x n] [] =
    (bif decide ((↑(List.length b) : Int) > (1000 : Int)) then some (X.d Ty.bool true, [])
    else
    bif A.se (decide (List.length b ≤ (100000 : Nat)) && (bytesB b && (!nl || List.isEmpty b))) then
      bif A.se (decide (List.length b ≤ (100000 : Nat)) && (bytesB b && (!nl || List.isEmpty b))) then
        bif A.se (isU64 n && (decide (List.length b ≤ (100000 : Nat)) && (!nl || List.isEmpty b))) then
          bif A.se (isU64 n && (decide (List.length b ≤ (100000 : Nat)) && (!nl || List.isEmpty b))) then
            bif A.seq (strOf (A.se (b ++ vb (Int.toNat n)))) (strOf (A.se (b ++ vb (Int.toNat n)))) == true then
              bif A.se (isU64 n) then
                bif A.se (isU64 n) then
                  bif
                      (A.se (↑(List.length (vb (Int.toNat n))) : Int) ==
                          A.se (↑(List.length (vb (Int.toNat n))) : Int)) ==
                        true then
                    bif (A.se (tkN b) == A.se (tkN b)) == true then
                      bif A.seq (strOf (A.se (tkR b))) (strOf (A.se (tkR b))) == true then
                        some (X.d Ty.bool (A.se (tkE b) == A.se (tkE b)), [])
                      else some (X.d Ty.bool false, [])
                    else some (X.d Ty.bool false, [])
                  else some (X.d Ty.bool false, [])
                else none
              else none
            else some (X.d Ty.bool false, [])
          else none
        else none
      else none
    else none) := by kernel_rfl
theorem t4 (A : Ar) (n : Int) (b : List Int) (nl : Bool) (c : Int) : bodyX (Cx A (O7 A) noL) 200 Try.f4 [u64x n, u8s b (some nl) false, u8x c] [] =
    (bif decide ((↑(List.length b) : Int) > (1000 : Int)) then some (X.d Ty.bool true, [])
    else
    bif A.se (isU64 n && (decide ((0 : Nat) ≤ (100000 : Nat)) && (!true || true))) then
      bif decide (((0 : Nat) + List.length (A.se ([] ++ vb (Int.toNat n)))) * (1 : Nat) ≤ (140737488355328 : Nat)) then
        bif
            decide
              ((List.length ([] ++ A.se ([] ++ vb (Int.toNat n))) + List.length b) * (1 : Nat) ≤
                (140737488355328 : Nat)) then
          bif
              A.se
                (decide (List.length ([] ++ A.se ([] ++ vb (Int.toNat n)) ++ b) ≤ (100000 : Nat)) &&
                  (bytesB ([] ++ A.se ([] ++ vb (Int.toNat n)) ++ b) &&
                    (!(false && List.isEmpty (A.se ([] ++ vb (Int.toNat n))) && List.isEmpty b) ||
                      List.isEmpty ([] ++ A.se ([] ++ vb (Int.toNat n)) ++ b)))) then
            bif A.se (decide (List.length b ≤ (100000 : Nat)) && (bytesB b && (!nl || List.isEmpty b))) then
              bif (↑(List.length (A.se ([] ++ vb (Int.toNat n)))) : Int) == (0 : Int) then some (X.d Ty.bool false, [])
              else
                bif
                    decide
                      ((↑(List.length (A.se ([] ++ vb (Int.toNat n)))) : Int) = (0 : Int)) then
                  none
                else
                  bif
                      decide
                        ((0 : Int) ≤
                            Int.tmod (A.wrap IntKind.i64 c) (↑(List.length (A.se ([] ++ vb (Int.toNat n)))) : Int) ∧
                          Int.tmod (A.wrap IntKind.i64 c) (↑(List.length (A.se ([] ++ vb (Int.toNat n)))) : Int) ≤
                            (↑(List.length (A.se ([] ++ vb (Int.toNat n)))) : Int)) then
                    bif
                        A.se
                          (decide
                              (List.length
                                  (List.take
                                    (Int.toNat
                                      (Int.tmod (A.wrap IntKind.i64 c)
                                        (↑(List.length (A.se ([] ++ vb (Int.toNat n)))) : Int)))
                                    (A.se ([] ++ vb (Int.toNat n)))) ≤
                                (100000 : Nat)) &&
                            (bytesB
                                (List.take
                                  (Int.toNat
                                    (Int.tmod (A.wrap IntKind.i64 c)
                                      (↑(List.length (A.se ([] ++ vb (Int.toNat n)))) : Int)))
                                  (A.se ([] ++ vb (Int.toNat n)))) &&
                              (!false ||
                                List.isEmpty
                                  (List.take
                                    (Int.toNat
                                      (Int.tmod (A.wrap IntKind.i64 c)
                                        (↑(List.length (A.se ([] ++ vb (Int.toNat n)))) : Int)))
                                    (A.se ([] ++ vb (Int.toNat n))))))) then
                      bif (A.se (tkE ([] ++ A.se ([] ++ vb (Int.toNat n)) ++ b)) == (0 : Int)) == true then
                        bif (A.se (tkN ([] ++ A.se ([] ++ vb (Int.toNat n)) ++ b)) == n) == true then
                          bif A.seq (strOf (A.se (tkR ([] ++ A.se ([] ++ vb (Int.toNat n)) ++ b)))) (strOf b) == true then
                            bif (A.se (tkE b) != (0 : Int)) == false then
                              bif
                                  A.se
                                    (isU64 (A.se (tkN b)) &&
                                      (decide ((0 : Nat) ≤ (100000 : Nat)) && (!true || true))) then
                                bif
                                    decide
                                      (ByteArray.size (strOf (A.se ([] ++ vb (Int.toNat (A.se (tkN b)))))) +
                                          ByteArray.size (strOf (A.se (tkR b))) ≤
                                        (9223372036854775807 : Nat)) then
                                  bif
                                      A.seq (strOf (A.se ([] ++ vb (Int.toNat (A.se (tkN b))))) ++ strOf (A.se (tkR b)))
                                          (strOf b) ==
                                        true then
                                    bif
                                        (A.se
                                              (tkE
                                                (List.take
                                                  (Int.toNat
                                                    (Int.tmod (A.wrap IntKind.i64 c)
                                                      (↑(List.length (A.se ([] ++ vb (Int.toNat n)))) : Int)))
                                                  (A.se ([] ++ vb (Int.toNat n))))) ==
                                            (130 : Int)) ==
                                          true then
                                      bif A.se (isU64 n) then
                                        some
                                          (X.d Ty.bool
                                              ((↑(List.length (A.se ([] ++ vb (Int.toNat n)))) : Int) ==
                                                A.se (↑(List.length (vb (Int.toNat n))) : Int)),
                                            [])
                                      else none
                                    else some (X.d Ty.bool false, [])
                                  else some (X.d Ty.bool false, [])
                                else none
                              else none
                            else
                              bif
                                  (A.se
                                        (tkE
                                          (List.take
                                            (Int.toNat
                                              (Int.tmod (A.wrap IntKind.i64 c)
                                                (↑(List.length (A.se ([] ++ vb (Int.toNat n)))) : Int)))
                                            (A.se ([] ++ vb (Int.toNat n))))) ==
                                      (130 : Int)) ==
                                    true then
                                bif A.se (isU64 n) then
                                  some
                                    (X.d Ty.bool
                                        ((↑(List.length (A.se ([] ++ vb (Int.toNat n)))) : Int) ==
                                          A.se (↑(List.length (vb (Int.toNat n))) : Int)),
                                      [])
                                else none
                              else some (X.d Ty.bool false, [])
                          else some (X.d Ty.bool false, [])
                        else some (X.d Ty.bool false, [])
                      else some (X.d Ty.bool false, [])
                    else none
                  else none
            else none
          else none
        else none
      else none
    else none) := by kernel_rfl
end Go.Proofs.Ytclpckkidfleoaa.V
