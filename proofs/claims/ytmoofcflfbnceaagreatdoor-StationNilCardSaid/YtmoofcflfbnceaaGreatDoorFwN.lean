/-
  THE FRAMEWORK, PART N: more plain laws of the models' words: lists compared, gathered, changed place by place. No program in it.
-/
import Derived.Test.YtmoofcflfbnceaaGreatDoorFwK
import Derived.Test.YtmoofcflfbnceaaGreatDoorFwM
namespace Go.Fw

def preL {α S X : Type} (B : List α → α → S → Option (Step S X)) (fin : S → X) : List α → List α → S → Option X
  | _, [], s => some (fin s)
  | pre, x :: xs, s => (B pre x s).bind fun st => match st with
    | .cont s' => preL B fin (pre ++ [x]) xs s'
    | .done y => some y
def anyPre {α : Type} (p : List α → α → Bool) : List α → List α → Bool
  | _, [] => false
  | pre, x :: xs => p pre x || anyPre p (pre ++ [x]) xs
end Go.Fw
