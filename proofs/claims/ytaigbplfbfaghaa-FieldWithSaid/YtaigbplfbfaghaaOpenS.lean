/- Opening an argument that is a slice of strings. -/
import Derived.Test.YtaigbplfbfaghaaOpen
